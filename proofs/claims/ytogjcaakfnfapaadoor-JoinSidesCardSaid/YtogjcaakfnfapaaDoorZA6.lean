/- The library's stable sort at elements of k cells: blocks, then merges. Points of a row of one's own; sorted by their labels. Points, sorted by their labels. topk's comparison. Plain law: a stable sort is the insertion of one after the other. A group's points, those that come first ahead: the library's stable sort. Plain law: a point put into points that are in order. (Several texts in one file, by merge.py.) -/
import Derived.Test.YtogjcaakfnfapaaDoorZA5
import Derived.Test.YtogjcaakfnfapaaDoorZA4
import Derived.Test.YtogjcaakfnfapaaDoorZA3
import Derived.Maps.AppendAt
import Derived.Test.YtogjcaakfnfapaaDoorZA2
namespace Go.Proofs.YtogjcaakfnfapaaDoor
open Go.Shelf Go.RowKit Go.Lib Go.Sort
set_option linter.unusedVariables false
set_option linter.unusedSimpArgs false
set_option maxRecDepth 100000

section
variable {α : Type} [Inhabited α] {enc : α → List Value} {lt : α → α → Bool}
def Blk (lt : α → α → Bool) (s n t0 : Nat) (d : Array α) : Prop := ∀ t, t0 ≤ t → SortedIn lt (s * t) (min (s * t + s) n) d
def Bel (lt : α → α → Bool) (s q : Nat) (d : Array α) : Prop := ∀ t, t < q → SortedIn lt (s * t) (s * t + s) d
theorem bel_step {s q : Nat} {d d' : Array α} (h : Bel lt s q d) (hp : PermIn (s * q) (s * q + s) d d') (hs : SortedIn lt (s * q) (s * q + s) d') : Bel lt s (q + 1) d' := by
  intro t ht
  by_cases hc : t = q
  · subst hc; exact hs
  · have := Nat.mul_le_mul_left s (show t + 1 ≤ q by omega)
    rw [Nat.mul_add, Nat.mul_one] at this
    exact SortedIn.congr (h t (by omega)) fun x h1 h2 => hp.2.1 x (.inl (by omega))
theorem bel_end {s q n : Nat} {d d' : Array α} (h : Bel lt s q d) (hn : s * q ≤ n) (hn2 : n < s * q + s) (hp : PermIn (s * q) n d d') (hs : SortedIn lt (s * q) n d') : Blk lt s n 0 d' := by
  intro t _
  rcases Nat.lt_trichotomy t q with hc | hc | hc
  · have := Nat.mul_le_mul_left s (show t + 1 ≤ q by omega)
    rw [Nat.mul_add, Nat.mul_one] at this
    rw [Nat.min_eq_left (by omega)]
    exact SortedIn.congr (h t (by omega)) fun x h1 h2 => hp.2.1 x (.inl (by omega))
  · subst hc
    rw [Nat.min_eq_right (by omega)]
    exact hs
  · have := Nat.mul_le_mul_left s (show q + 1 ≤ t by omega)
    rw [Nat.mul_add, Nat.mul_one] at this
    intro x y h1 h2 h3
    have := Nat.min_le_right (s * t + s) n
    omega
theorem blk_step {s q n : Nat} {d d' : Array α} (h : Blk lt s n (2 * q) d) (hp : PermIn (2 * s * q) (2 * s * q + 2 * s) d d') : Blk lt s n (2 * (q + 1)) d' := by
  intro t ht
  have := Nat.mul_le_mul_left s (show 2 * q + 2 ≤ t by omega)
  rw [Nat.mul_add, ← Nat.mul_assoc, Nat.mul_comm s 2] at this
  exact SortedIn.congr (h t (by omega)) fun x h1 h2 => hp.2.1 x (.inr (by omega))
theorem blk_parts {s q n : Nat} {d : Array α} (h : Blk lt s n (2 * q) d) : SortedIn lt (2 * s * q) (min (2 * s * q + s) n) d ∧ SortedIn lt (2 * s * q + s) (min (2 * s * q + 2 * s) n) d := by
  have h1 := h (2 * q) (Nat.le_refl _)
  have h2 := h (2 * q + 1) (by omega)
  have e1 : s * (2 * q) = 2 * s * q := by rw [← Nat.mul_assoc, Nat.mul_comm s 2]
  have e2 : s * (2 * q + 1) = 2 * s * q + s := by rw [Nat.mul_add, e1, Nat.mul_one]
  rw [e1] at h1
  rw [e2, show 2 * s * q + s + s = 2 * s * q + 2 * s by omega] at h2
  exact ⟨h1, h2⟩

variable {Q : α → α → Prop}
/-- Pairs of different blocks, from x0 on. -/
def Cross (Q : α → α → Prop) (s n x0 : Nat) (d : Array α) : Prop := ∀ x y, x0 ≤ x → x < y → y < n → x / s < y / s → Q d[y]! d[x]!
theorem div_blk {s t x : Nat} (hs : 0 < s) (h1 : s * t ≤ x) (h2 : x < s * t + s) : x / s = t := by
  rw [Nat.div_eq_iff hs]
  rw [Nat.mul_comm t s]
  omega
theorem cross_perm {s t n x0 b : Nat} {d d' : Array α} (hs : 0 < s) (hn : n ≤ d.size) (h : Cross Q s n x0 d) (hx : x0 ≤ s * t) (hb : b ≤ s * t + s) (hbn : b ≤ n) (hp : PermIn (s * t) b d d') : Cross Q s n x0 d' := by
  intro x y h1 h2 h3 h4
  have hin : ∀ z, s * t ≤ z → z < b → z / s = t := fun z a c => div_blk hs a (by omega)
  by_cases cx : s * t ≤ x ∧ x < b
  · have cy : ¬ (s * t ≤ y ∧ y < b) := fun cy => by rw [hin x cx.1 cx.2, hin y cy.1 cy.2] at h4; omega
    rw [hp.2.1 y (by omega)]
    refine permIn_all d d' _ b (fun z => Q d[y]! z) (by omega) hp (fun z h5 h6 => h z y (by omega) (by omega) h3 ?_) x cx.1 cx.2
    rw [hin z h5 h6, ← hin x cx.1 cx.2]; exact h4
  · rw [hp.2.1 x (by omega)]
    by_cases cy : s * t ≤ y ∧ y < b
    · refine permIn_all d d' _ b (fun z => Q z d[x]!) (by omega) hp (fun z h5 h6 => h x z h1 (by omega) (by omega) ?_) y cy.1 cy.2
      rw [hin z h5 h6, ← hin y cy.1 cy.2]; exact h4
    · rw [hp.2.1 y (by omega)]
      exact h x y h1 h2 h3 h4
theorem cross_two {s n : Nat} {d : Array α} (h : Cross Q s n 0 d) : Cross Q (2 * s) n 0 d := fun x y h1 h2 h3 h4 =>
  h x y h1 h2 h3 (by
    rw [Nat.mul_comm, ← Nat.div_div_eq_div_mul, ← Nat.div_div_eq_div_mul] at h4
    rcases Nat.lt_or_ge (x / s) (y / s) with c | c
    · exact c
    · have := Nat.div_le_div_right (c := 2) c
      omega)
theorem cross_far {s n x0 x1 : Nat} {d d' : Array α} (h : Cross Q s n x0 d) (h01 : x0 ≤ x1) (hp : ∀ x, x1 ≤ x → d'[x]! = d[x]!) : Cross Q s n x1 d' := fun x y h1 h2 h3 h4 => by
  rw [hp x h1, hp y (by omega)]
  exact h x y (by omega) h2 h3 h4
theorem cross_across {s q n b : Nat} {d : Array α} (hs : 0 < s) (h : Cross Q s n (2 * s * q) d) (hb : b ≤ 2 * s * q + 2 * s) (hbn : b ≤ n) : Across Q (2 * s * q) (2 * s * q + s) b d := fun x y h1 h2 h3 h4 => by
  have e1 : s * (2 * q) = 2 * s * q := by rw [← Nat.mul_assoc, Nat.mul_comm s 2]
  have e2 : s * (2 * q + 1) = 2 * s * q + s := by rw [Nat.mul_add, e1, Nat.mul_one]
  refine h x y h1 (by omega) (by omega) ?_
  rw [div_blk hs (t := 2 * q) (by omega) (by omega), div_blk hs (t := 2 * q + 1) (by omega) (by omega)]
  omega

def StA (enc : α → List Value) (k : Nat) (w0 : World) (blk off : Nat) (lt : α → α → Bool) (Q : α → α → Prop) (d : Array α) (iv jv : Value) (wr : World) : Prop := ∃ (a q : Nat) (dk : Array α), iv = .int .i64 a ∧ jv = .int .i64 ((a : Int) + 20) ∧ a = 20 * q ∧ a ≤ d.size ∧ dk.size = d.size ∧ PermIn 0 d.size d dk ∧ Bel lt 20 q dk ∧ Cross Q 20 d.size 0 dk ∧ (∀ x, a ≤ x → dk[x]! = d[x]!) ∧ SWK enc k w0 blk off dk wr
def StB (enc : α → List Value) (k : Nat) (w0 : World) (blk off : Nat) (lt : α → α → Bool) (Q : α → α → Prop) (d : Array α) (sv : Value) (wr : World) : Prop := ∃ (s : Nat) (dk : Array α), sv = .int .i64 s ∧ 0 < s ∧ s < 4611686018427387904 + 4611686018427387904 ∧ dk.size = d.size ∧ PermIn 0 d.size d dk ∧ Blk lt s d.size 0 dk ∧ Cross Q s d.size 0 dk ∧ SWK enc k w0 blk off dk wr
def StC (enc : α → List Value) (k : Nat) (w0 : World) (blk off : Nat) (lt : α → α → Bool) (Q : α → α → Prop) (s : Nat) (d : Array α) (iv jv : Value) (wr : World) : Prop := ∃ (a q : Nat) (dk : Array α), iv = .int .i64 a ∧ jv = .int .i64 ((a : Int) + 2 * (s : Int)) ∧ a = 2 * s * q ∧ a ≤ d.size ∧ dk.size = d.size ∧ PermIn 0 d.size d dk ∧ Bel lt (2 * s) q dk ∧ Blk lt s d.size (2 * q) dk ∧ Cross Q (2 * s) d.size 0 dk ∧ Cross Q s d.size a dk ∧ SWK enc k w0 blk off dk wr

set_option maxHeartbeats 8000000 in
theorem stableQ_P (k : Nat) (zE : ∀ w, (Go.sizeOf 42).run Tryd.prog w = .ok k w) (g : Nat) (cb : Array Value) (eg : ∀ args w, (callFunc g args).run Tryd.prog w = .ok (.enter g args) w) (cf : α → α → Int) (blk off cap : Nat) (d0 d : Array α) (w0 w : World)
    (R : RowK enc k w0 blk off d0) (hs : d0.size = d.size) (S : SWK enc k w0 blk off d w) (hC : CmpLays Tryd.prog g cb enc k cf blk off d0.size w0) (hT : Tests Q cf lt) (hQ : Pairs Q 0 0 d.size d) (hS : SWO lt) (hsz : d.size < 4611686018427387904) :
    Calls Tryd.prog 113 #[.slice (some ⟨blk, off, none⟩) d.size cap, .int .i64 d.size, .func (.func g) #[] cb] w fun e w' => e = .returned (.tuple #[]) ∧ Merged enc k w0 blk off lt 0 d.size d w' := by
  have S0 : Aside (SWK enc k w0 blk off d w) := S
  have mixed : Tryd.prog.follows .mixedOrders = true := by kernel_rfl
  have hins : ∀ (a b : Nat) (dk : Array α) (wk : World), dk.size = d.size → SWK enc k w0 blk off dk wk → a ≤ b → b ≤ d.size → Pairs Q a a b dk → Calls Tryd.prog 126 #[.slice (some ⟨blk, off, none⟩) d.size cap, .int .i64 a, .int .i64 b, .func (.func g) #[] cb] wk fun e w' => e = .returned (.tuple #[]) ∧ Merged enc k w0 blk off lt a b dk w' := by
    intro a b dk wk hz hSk hab hb hQk
    have h := insertion_P k zE g cb eg cf blk off cap a b d0 dk w0 wk R (by omega) hSk hC hT hQk hS hab (by omega) (by omega)
    rw [hz] at h
    exact h
  have hmrg : ∀ (a m b : Nat) (dk : Array α) (wk : World), dk.size = d.size → SWK enc k w0 blk off dk wk → a < m → m < b → b ≤ d.size → SortedIn lt a m dk → SortedIn lt m b dk → Across Q a m b dk → Calls Tryd.prog 127 #[.slice (some ⟨blk, off, none⟩) d.size cap, .int .i64 a, .int .i64 m, .int .i64 b, .func (.func g) #[] cb] wk fun e w' => e = .returned (.tuple #[]) ∧ Merged enc k w0 blk off lt a b dk w' := by
    intro a m b dk wk hz hSk ham hmb hb h1 h2 hQk
    have h := symMerge_P k zE g cb eg cf blk off cap d0 w0 R hC hT hS (by omega) (b - a) a m b dk wk (Nat.le_refl _) (by omega) hSk ham hmb (by omega) h1 h2 hQk
    rw [hz] at h
    exact h
  have HINS := Lib.hid hins
  have HMRG := Lib.hid hmrg
  have HS := Lib.hid hs
  have HPQ := Lib.hid hQ
  clear S hC hT hQ hS hs hins hmrg
  go_enter Tryd.func113, Tryd.ntmps113
  go_wp2_with fail
  go_loopw [7, 8] (fun iv jv wr => StA enc k w0 blk off lt Q d iv jv wr) (fun iv jv _ => d.size - (intOf iv).toNat)
  case atStart => exact ⟨0, 0, d, rfl, rfl, rfl, Nat.zero_le _, rfl, permIn_refl _ _ _, fun t ht => absurd ht (Nat.not_lt_zero _), fun x y _ h2 h3 _ => HPQ.out x y (Nat.zero_le _) h2 (Nat.zero_le _) h3, fun x _ => rfl, S0.out⟩
  case round =>
    clear S0
    obtain ⟨a, q, dk, rfl, rfl, haq, han, hz, hp, hbl, hcr, hfar, hSk⟩ := hrel
    have HCR := Lib.hid hcr
    have HFAR := Lib.hid hfar
    have S1 := Lib.hid hSk
    have HP := Lib.hid hp
    have HB := Lib.hid hbl
    have HZ := Lib.hid hz
    have HQ := Lib.hid haq
    clear hSk hp hbl hz haq hcr hfar
    by_cases hlt : a + 20 ≤ d.size
    · have hltz : (a : Int) + 20 ≤ (d.size : Int) := by omega
      have HCALL := Lib.hid (HINS.out a (a + 20) dk wr HZ.out S1.out (by omega) hlt (fun x y h1 h2 h3 h4 => by rw [HFAR.out x h1, HFAR.out y h3]; exact HPQ.out x y (Nat.zero_le _) h2 (Nat.zero_le _) (by omega)))
      rw [show ((a + 20 : Nat) : Int) = (a : Int) + 20 by omega] at HCALL
      go_wp2_with fail
      refine HCALL.out.mono ?_
      rintro e1 w1 ⟨rfl, d1, hSd, hz1, hp1, hs1⟩
      have S2 := Lib.hid hSd
      have HZ1 := Lib.hid hz1
      have HP1 := Lib.hid hp1
      have HS1 := Lib.hid hs1
      clear hSd hz1 hp1 hs1
      go_wp2_with fail
      go_roundw
      case rel =>
        have hq := HQ.out
        have hz := HZ.out
        have h1 := HP1.out
        have h2 := HS1.out
        refine ⟨a + 20, q + 1, d1, by first | rfl | go_num, by first | rfl | go_num | (congr 1; omega), by omega, hlt, by have := HZ1.out; omega, permIn_trans _ _ _ _ _ HP.out (permIn_mono _ _ a (a + 20) 0 d.size (by omega) hlt (by omega) HP1.out), ?_, ?_, fun x hx => by rw [HP1.out.2.1 x (.inr hx), HFAR.out x (by omega)], S2.out⟩
        all_goals
          rw [hq] at h1 h2
        · exact bel_step HB.out h1 h2
        · exact cross_perm (by omega) (by omega) HCR.out (Nat.zero_le _) (Nat.le_refl _) (by omega) h1
      case measure => simp [intOf]; omega
    · have hltz : ¬ (a : Int) + 20 ≤ (d.size : Int) := by omega
      have HCALL := Lib.hid (HINS.out a d.size dk wr HZ.out S1.out han (Nat.le_refl _) (fun x y h1 h2 h3 h4 => by rw [HFAR.out x h1, HFAR.out y h3]; exact HPQ.out x y (Nat.zero_le _) h2 (Nat.zero_le _) h4))
      go_wp2_with fail
      refine HCALL.out.mono ?_
      rintro e1 w1 ⟨rfl, d1, hSd, hz1, hp1, hs1⟩
      have hq := HQ.out
      have hz := HZ.out
      have hbk : Blk lt 20 d.size 0 d1 := by
        rw [hq] at hp1 hs1
        exact bel_end HB.out (by omega) (by omega) hp1 hs1
      have hcr1 : Cross Q 20 d.size 0 d1 := by
        rw [hq] at hp1
        exact cross_perm (by omega) (by omega) HCR.out (Nat.zero_le _) (by omega) (Nat.le_refl _) hp1
      have hpp : PermIn 0 d.size d d1 := permIn_trans _ _ _ _ _ HP.out (permIn_mono _ _ a d.size 0 d.size (by omega) (Nat.le_refl _) (by omega) hp1)
      have hzz : d1.size = d.size := by omega
      have S2 := Lib.hid hSd
      have HBK := Lib.hid hbk
      have HCR1 := Lib.hid hcr1
      have HPP := Lib.hid hpp
      have HZZ := Lib.hid hzz
      clear hSd hz1 hp1 hs1 hbk hcr1 hpp hzz hq hz HCALL S1 HP HB HZ HQ HCR HFAR hlt hltz
      go_wp2_with fail
      go_loopw [6] (fun sv wr => StB enc k w0 blk off lt Q d sv wr) (fun sv _ => d.size - (intOf sv).toNat)
      case atStart => exact ⟨20, d1, rfl, by omega, by omega, HZZ.out, HPP.out, HBK.out, HCR1.out, S2.out⟩
      case round =>
        clear S2 HBK HPP HZZ HCR1
        obtain ⟨s, dk, rfl, hs0, hsb, hz, hp, hbl, hcr, hSk⟩ := hrel
        have HCR := Lib.hid hcr
        have S1 := Lib.hid hSk
        have HP := Lib.hid hp
        have HB := Lib.hid hbl
        have HZ := Lib.hid hz
        clear hSk hp hbl hz hcr
        by_cases hlt : s < d.size
        · have hltz : (s : Int) < (d.size : Int) := by omega
          go_wp2_with fail
          go_loopw [7, 8] (fun iv jv wr => StC enc k w0 blk off lt Q s d iv jv wr) (fun iv jv _ => d.size - (intOf iv).toNat)
          case atStart => exact ⟨0, 0, dk, rfl, by first | rfl | go_num | simp, rfl, Nat.zero_le _, HZ.out, HP.out, fun t ht => absurd ht (Nat.not_lt_zero _), HB.out, cross_two HCR.out, HCR.out, S1.out⟩
          case round =>
            clear S1 HP HB HZ HCR
            obtain ⟨a, q, dk, rfl, rfl, haq, han, hz, hp, hbl, hbk, hcr2, hcr, hSk⟩ := hrel
            have HCR2 := Lib.hid hcr2
            have HCR := Lib.hid hcr
            have S1 := Lib.hid hSk
            have HP := Lib.hid hp
            have HB := Lib.hid hbl
            have HK := Lib.hid hbk
            have HZ := Lib.hid hz
            have HQ := Lib.hid haq
            obtain ⟨g1, g2⟩ := blk_parts hbk
            rw [← haq] at g1 g2
            have G1 := Lib.hid g1
            have G2 := Lib.hid g2
            clear hSk hp hbl hz haq hbk g1 g2 hcr2 hcr
            by_cases hl2 : a + 2 * s ≤ d.size
            · have hl2z : (a : Int) + 2 * (s : Int) ≤ (d.size : Int) := by omega
              have HCALL := Lib.hid (HMRG.out a (a + s) (a + 2 * s) dk wr HZ.out S1.out (by omega) (by omega) hl2 (by have := G1.out; rwa [Nat.min_eq_left (by omega)] at this) (by have := G2.out; rwa [Nat.min_eq_left (by omega)] at this) (by have := HCR.out; rw [HQ.out] at this ⊢; exact cross_across hs0 this (Nat.le_refl _) (by have := HQ.out; omega)))
              rw [show ((a + s : Nat) : Int) = (a : Int) + (s : Int) by omega, show ((a + 2 * s : Nat) : Int) = (a : Int) + 2 * (s : Int) by omega] at HCALL
              go_wp2_with fail
              refine HCALL.out.mono ?_
              rintro e1 w1 ⟨rfl, d1, hSd, hz1, hp1, hs1⟩
              have S2 := Lib.hid hSd
              have HZ1 := Lib.hid hz1
              have HP1 := Lib.hid hp1
              have HS1 := Lib.hid hs1
              clear hSd hz1 hp1 hs1
              go_wp2_with fail
              go_roundw
              case rel =>
                have hq := HQ.out
                have hz := HZ.out
                have h1 := HP1.out
                have h2 := HS1.out
                rw [hq] at h1 h2
                exact ⟨a + 2 * s, q + 1, d1, by first | rfl | go_num, by first | rfl | go_num | (congr 1; omega), by rw [Nat.mul_add, ← hq, Nat.mul_one], hl2, by have := HZ1.out; omega, permIn_trans _ _ _ _ _ HP.out (permIn_mono _ _ a (a + 2 * s) 0 d.size (by omega) hl2 (by omega) HP1.out), bel_step HB.out h1 h2, blk_step HK.out h1, cross_perm (by omega) (by omega) HCR2.out (Nat.zero_le _) (Nat.le_refl _) (by omega) h1, cross_far HCR.out (by omega) (fun x hx => HP1.out.2.1 x (.inr hx)), S2.out⟩
              case measure => simp [intOf]; omega
            · have hl2z : ¬ (a : Int) + 2 * (s : Int) ≤ (d.size : Int) := by omega
              by_cases hl3 : a + s < d.size
              · have hl3z : (a : Int) + (s : Int) < (d.size : Int) := by omega
                have HCALL := Lib.hid (HMRG.out a (a + s) d.size dk wr HZ.out S1.out (by omega) hl3 (Nat.le_refl _) (by have := G1.out; rwa [Nat.min_eq_left (by omega)] at this) (by have := G2.out; rwa [Nat.min_eq_right (by omega)] at this) (by have := HCR.out; rw [HQ.out] at this ⊢; exact cross_across hs0 this (by have := HQ.out; omega) (Nat.le_refl _)))
                rw [show ((a + s : Nat) : Int) = (a : Int) + (s : Int) by omega] at HCALL
                go_wp2_with fail
                refine HCALL.out.mono ?_
                rintro e1 w1 ⟨rfl, d1, hSd, hz1, hp1, hs1⟩
                have S2 := Lib.hid hSd
                have HZ1 := Lib.hid hz1
                have HP1 := Lib.hid hp1
                have HS1 := Lib.hid hs1
                clear hSd hz1 hp1 hs1
                go_wp2_with fail
                go_roundw
                case rel =>
                  have hq := HQ.out
                  have hz := HZ.out
                  have h1 := HP1.out
                  have h2 := HS1.out
                  rw [hq] at h1 h2
                  exact ⟨2 * s, d1, by first | rfl | go_num | (congr 1; omega), by omega, by omega, by have := HZ1.out; omega, permIn_trans _ _ _ _ _ HP.out (permIn_mono _ _ a d.size 0 d.size (by omega) (Nat.le_refl _) (by omega) HP1.out), bel_end HB.out (by omega) (by omega) h1 h2, cross_perm (by omega) (by omega) HCR2.out (Nat.zero_le _) (by omega) (Nat.le_refl _) h1, S2.out⟩
                case measure => simp [intOf]; omega
              · have hl3z : ¬ (a : Int) + (s : Int) < (d.size : Int) := by omega
                go_wp2_with fail
                go_roundw
                case rel =>
                  have hq := HQ.out
                  have hz := HZ.out
                  have h2 := G1.out
                  rw [Nat.min_eq_right (by omega), hq] at h2
                  exact ⟨2 * s, dk, by first | rfl | go_num | (congr 1; omega), by omega, by omega, hz, HP.out, bel_end HB.out (by omega) (by omega) (permIn_refl _ _ _) h2, HCR2.out, S1.out⟩
                case measure => simp [intOf]; omega
        · have hltz : ¬ (s : Int) < (d.size : Int) := by omega
          go_wp2_with fail
          go_end0
          have h := HB.out 0 (Nat.le_refl _)
          rw [Nat.mul_zero, Nat.zero_add, Nat.min_eq_right (by omega)] at h
          exact ⟨rfl, dk, S1.out, HZ.out, HP.out, h⟩
/-- The order that the tests themselves tell. -/
theorem stable_P (k : Nat) (zE : ∀ w, (Go.sizeOf 42).run Tryd.prog w = .ok k w) (g : Nat) (cb : Array Value) (eg : ∀ args w, (callFunc g args).run Tryd.prog w = .ok (.enter g args) w) (cf : α → α → Int) (blk off cap : Nat) (d0 d : Array α) (w0 w : World)
    (R : RowK enc k w0 blk off d0) (hs : d0.size = d.size) (S : SWK enc k w0 blk off d w) (hC : CmpLays Tryd.prog g cb enc k cf blk off d0.size w0) (hS : SWO (ltOf cf)) (hsz : d.size < 4611686018427387904) :
    Calls Tryd.prog 113 #[.slice (some ⟨blk, off, none⟩) d.size cap, .int .i64 d.size, .func (.func g) #[] cb] w fun e w' => e = .returned (.tuple #[]) ∧ Merged enc k w0 blk off (ltOf cf) 0 d.size d w' :=
  stableQ_P (Q := fun _ _ => True) k zE g cb eg cf blk off cap d0 d w0 w R hs S hC ⟨fun p q _ h => by simpa [ltOf] using h, fun p q _ h => by simp [ltOf]; omega⟩ (fun _ _ _ _ _ _ => trivial) hS hsz
end
end Go.Proofs.YtogjcaakfnfapaaDoor
namespace Go.Proofs.YtogjcaakfnfapaaDoor
open Go Go.RowKit
set_option linter.unusedVariables false
set_option linter.unusedSimpArgs false
set_option maxRecDepth 100000
@[go_sem] theorem run_store_float {P : Program} {w : World} {a : Addr} {m : Mode} (b : Nat) : (store a (.float .f64 b) m).run P w = stored P w a (.float .f64 b) m := run_store P w a _ m rfl
theorem step_append_at {P : Program} {w : World} {ops : Array Oper} {o : Oper} {a : Act} {K : Act → World → Prop} {Q : Exit → Act → World → Prop} {E : Prop} (hgd : o.guard = none) (s x : Operand) (t : TypeId)
    (ho : o.op = .call { callee := .builtin .append, args := #[s, x], argTypes := #[t, t] })
    (base : Nat) (e : TypeId) (i : TypeInfo) (z : Value) (size bytes : Nat) (ht : P.underlying t = some (.slice e)) (hi : P.info? e = some i) (hz : i.zero = some z)
    (hsize : i.size = size) (hby : i.bytes = bytes) (hzs : z.cells.size = size) (hsz : 0 < size)
    (v : Value) (n : Nat) (xs : List Value) (hs : a.eval s = v) (hown : w.ownsRow base e size v n xs)
    (ad : Addr) (m c : Nat) (news : List Value) (hx : a.eval x = .slice (some ad) m c)
    (hl : news.length = m * size) (hnews : ∀ j u, news[j]? = some u → w.cell? (ad.add j) = some u) (h1 : ∀ u ∈ news, u.oneCell' = true)
    (h63 : n + m ≤ maxLen) (hbytes : (n + m) * bytes ≤ 140737488355328) (hbase : base ≤ w.heap.size)
    (h : ∀ v' w', w'.ownsRow base e size v' (n + m) (xs ++ news) → w.grownBy w' v.ownBlock → (v'.ownBlock = v.ownBlock ∨ v'.ownBlock = some w.heap.size) → K (a.put o.dst v') w') :
    if Region.wanted o (yielded ops a.tmps) = true then Oper.wp P o a w K Q else E := by
  have hw : Region.wanted o (yielded ops a.tmps) = true := by simp [Region.wanted, hgd]
  rw [if_pos hw]
  obtain ⟨v', w', hr, h2, h3, h4, h5⟩ := run_append_own_at (P := P) w base t o.type e i z size bytes ht hi hz hsize hby hzs hsz v n xs hown ad m c news hl hnews h1 h63 hbytes hbase
  unfold Oper.wp execOp
  simp only [ho, resolve, invoke, builtin, Sem.run_bind, Sem.run_pure, Result.andThen_ok, List.map_toArray, List.map_cons, List.map_nil, hs, hx, hr]
  exact h v' w' h2 h3 h5
theorem Tryd.infoPt : (Tryd.prog.info? 42).map (fun i => (i.zero, i.size, i.bytes)) = some (some (.agg #[.slice none 0 0, .float .f64 0]), 2, 32) := by kernel_rfl
theorem Sl.grown {w w' : World} {g : Option Nat} {lv : Value} {l : List Lb} (h : Sl lenc w lv l) (hne : l ≠ [] → lv.ownBlock ≠ g) (hg : w.grownBy w' g) : Sl lenc w' lv l := by
  obtain ⟨a, cap, rfl, hm, hn, hc⟩ := h
  refine ⟨a, cap, rfl, hm, hn, fun hx => ?_⟩
  obtain ⟨b, off, rfl, hd⟩ := hc hx
  refine ⟨b, off, rfl, fun j u hu => hg.cell (hd j u hu) ?_⟩
  have := hne hx
  simpa [Value.ownBlock] using this
theorem Sl.lt {w : World} {lv : Value} {l : List Lb} (h : Sl lenc w lv l) (hx : l ≠ []) : ∃ b, lv.ownBlock = some b ∧ b < w.heap.size := by
  obtain ⟨a, cap, rfl, hm, hn, hc⟩ := h
  obtain ⟨b, off, rfl, hd⟩ := hc hx
  cases l with
  | nil => exact absurd rfl hx
  | cons x r => exact ⟨b, rfl, World.block_lt_of_cell? w _ (hd 0 (.string x.1) rfl)⟩
theorem below_grownBy' {w w' : World} (hb : Below w.heap.size w w') : w.grownBy w' none := ⟨hb.os, hb.tape, hb.output, hb.size, fun b hk _ => hb.block b hk⟩
/-- A point as it lies, and what its labels read as. -/
abbrev ZPt := Value × Pt
def zenc (z : ZPt) : List Value := [z.1, .float .f64 z.2.2]
theorem zenc_len (z : ZPt) : (zenc z).length = 2 := rfl
/-- A point that can be read, whose labels lie in no block of g's. -/
def ZOk (w : World) (g : Option Nat) (z : ZPt) : Prop := Sl lenc w z.1 z.2.1 ∧ (z.2.1 ≠ [] → z.1.ownBlock ≠ g)
theorem ZOk.grown {w w' : World} {g : Option Nat} {z : ZPt} (h : ZOk w g z) (hg : w.grownBy w' g) : ZOk w' g z := ⟨h.1.grown h.2 hg, h.2⟩
theorem ZOk.below {w w' : World} {B : Nat} {g : Option Nat} {z : ZPt} (h : ZOk w g z) (hb : Below B w w') (hB : w.heap.size ≤ B) : ZOk w' g z := ⟨h.1.below hb hB, h.2⟩
theorem ZOk.fresh {w : World} {g : Option Nat} {z : ZPt} (h : Sl lenc w z.1 z.2.1) (hg : ∀ k, g = some k → w.heap.size ≤ k) : ZOk w g z := ⟨h, fun hx he => by
  obtain ⟨b, e1, e2⟩ := h.lt hx
  have := hg b (by rw [← he, e1])
  omega⟩
/-- A row of the call's own that reads as points. -/
def OV (w : World) (base : Nat) (v : Value) (ps : List Pt) : Prop :=
  ∃ zs : List ZPt, zs.map (·.2) = ps ∧ w.ownsRow base 42 2 v ps.length (zs.flatMap zenc) ∧ ∀ z ∈ zs, ZOk w v.ownBlock z
theorem OV.nil (w : World) (base : Nat) : OV w base (.slice none 0 0) [] := ⟨[], rfl, World.ownsRow_nil _ _ _ _, fun z h => by cases h⟩
theorem OV.kept {w w' : World} {base : Nat} {v : Value} {ps : List Pt} (h : OV w base v ps) (hb : Below w.heap.size w w') : OV w' base v ps := by
  obtain ⟨zs, h1, h2, h3⟩ := h
  exact ⟨zs, h1, h2.kept (below_grownBy' hb) (by cases v.ownBlock with | none => exact .inl rfl | some g => exact .inr (by simp)), fun z hz => (h3 z hz).below hb (Nat.le_refl _)⟩
theorem OV.slice {w : World} {base : Nat} {v : Value} {ps : List Pt} (h : OV w base v ps) : ∃ a cap, v = .slice a ps.length cap ∧ ps.length ≤ cap ∧ cap ≤ 9223372036854775807 := by
  obtain ⟨zs, h1, h2, h3⟩ := h
  rcases h2.2 with ⟨rfl, h0⟩ | ⟨g, cap, cur, rfl, -, -, hle, hcap, -⟩
  · exact ⟨none, 0, by rw [h0], by omega, by omega⟩
  · exact ⟨_, _, rfl, hle, by unfold maxLen at hcap; omega⟩
theorem OV.appended {w w' : World} {base : Nat} {v v' : Value} {ps : List Pt} {zs : List ZPt} {z : ZPt} (h1 : zs.map (·.2) = ps) (h3 : ∀ z ∈ zs, ZOk w v.ownBlock z) (hz : ZOk w v.ownBlock z)
    (ho : w'.ownsRow base 42 2 v' (ps.length + 1) (zs.flatMap zenc ++ zenc z)) (hg : w.grownBy w' v.ownBlock) (hat : v'.ownBlock = v.ownBlock ∨ v'.ownBlock = some w.heap.size) : OV w' base v' (ps ++ [z.2]) := by
  have key : ∀ z, ZOk w v.ownBlock z → ZOk w' v'.ownBlock z := by
    intro z h
    refine ⟨(h.grown hg).1, fun hx he => ?_⟩
    rcases hat with e | e
    · exact h.2 hx (by rw [he, e])
    · obtain ⟨b, e1, e2⟩ := h.1.lt hx
      rw [e1, e] at he
      injection he with he
      omega
  refine ⟨zs ++ [z], by simp [h1], ?_, fun y hy => ?_⟩
  · rw [List.length_append, List.flatMap_append]
    simpa using ho
  · rcases List.mem_append.1 hy with hy | hy
    · exact key y (h3 y hy)
    · rw [List.mem_singleton.1 hy]; exact key z hz
theorem Sl.mapped {α β : Type} {enc : β → List Value} {f : α → β} {w : World} {v : Value} {xs : List α} (h : Sl (fun x => enc (f x)) w v xs) : Sl enc w v (xs.map f) := by
  obtain ⟨a, cap, rfl, hm, hn, hc⟩ := h
  refine ⟨a, cap, by simp, by simpa using hm, fun e => ?_, fun hx => ?_⟩
  · obtain ⟨e1, e2⟩ := hn e; exact ⟨e1, by rw [e2]; rfl⟩
  · obtain ⟨b, off, e, hd⟩ := hc (fun e => hx (by rw [e]; rfl))
    refine ⟨b, off, e, fun j u hu => hd j u ?_⟩
    rw [List.flatMap_map] at hu
    exact hu
theorem vs_of {w : World} {v : Value} {zs : List ZPt} (h : Sl zenc w v zs) (h2 : ∀ z ∈ zs, Sl lenc w z.1 z.2.1) : VS w v (zs.map (·.2)) := by
  refine ⟨zs.map fun z => (z.1, z.2.2), Sl.mapped (enc := penc) (f := fun z : ZPt => (z.1, z.2.2)) h, by simp, fun k h3 h4 => ?_⟩
  have hk : k < zs.length := by simpa using h3
  simp only [List.getElem_map]
  exact ⟨h2 _ (List.getElem_mem hk), trivial⟩
theorem OV.vs {w : World} {base : Nat} {v : Value} {ps : List Pt} (h : OV w base v ps) : VS w v ps := by
  obtain ⟨zs, rfl, h2, h3⟩ := h
  exact vs_of (Sl.own zenc_len (by decide) h2) fun z hz => (h3 z hz).1
set_option maxHeartbeats 2000000 in
theorem pcmp_any (v1 v2 : Value) (b1 b2 : Nat) (l1 l2 : List Lb) (w : World) (h1 : Sl lenc w v1 l1) (h2 : Sl lenc w v2 l2) :
    Calls Tryd.prog 81 #[.agg #[v1, .float .f64 b1], .agg #[v2, .float .f64 b2]] w fun e w' => e = .returned (.int .i64 (cmpL l1 l2)) ∧ Grew w w' := by
  have HC := Lib.hid (fun w' (hb : Below w.heap.size w w') => compare_any v1 v2 l1 l2 w' (h1.below hb (Nat.le_refl _)) (h2.below hb (Nat.le_refl _)))
  obtain ⟨a1, cap1, rfl, -, -⟩ := h1
  obtain ⟨a2, cap2, rfl, -, -⟩ := h2
  obtain ⟨n1, hn1⟩ : ∃ n, n = l1.length := ⟨_, rfl⟩
  obtain ⟨n2, hn2⟩ : ∃ n, n = l2.length := ⟨_, rfl⟩
  rw [← hn1, ← hn2] at HC ⊢
  clear hn1 hn2
  go_enter Tryd.func81, Tryd.ntmps81
  go_wp2_with fail
  refine (HC.out _ (((Below.refl _ _).alloc (Nat.le_refl _) _).alloc (by simp) _)).mono ?_
  rintro e w1 ⟨rfl, hg⟩
  have HG := Lib.hid ((((Grew.refl w).alloc _).alloc _).trans hg)
  clear hg
  go_wp2_with fail
  go_ret
  exact ⟨rfl, HG.out⟩
end Go.Proofs.YtogjcaakfnfapaaDoor
namespace Go.Proofs.YtogjcaakfnfapaaDoor
open Go Go.RowKit Go.Lib Go.Sort
set_option linter.unusedVariables false
set_option linter.unusedSimpArgs false
set_option maxRecDepth 100000
abbrev ZIn (w : World) (g : Nat) := {z : ZPt // ZOk w (some g) z}
instance (w : World) (g : Nat) : Inhabited (ZIn w g) := ⟨⟨(.slice none 0 0, [], 0), Sl.nil _, fun h => absurd rfl h⟩⟩
def yenc {w : World} {g : Nat} (y : ZIn w g) : List Value := zenc y.1
theorem yenc_len {w : World} {g : Nat} (y : ZIn w g) : (yenc y).length = 2 := rfl
def ycmp {w : World} {g : Nat} (x y : ZIn w g) : Int := cmpL x.1.2.1 y.1.2.1
theorem ycmp_swo {w : World} {g : Nat} : Sort.SWO (ltOf (ycmp (w := w) (g := g))) := swo_of (fun x y => cmpL_neg x.1.2.1 y.1.2.1) (fun x y z h1 h2 => cmpL_trans _ _ _ h1 h2)
theorem ycmp_lays {w : World} {g : Nat} {size : Nat} {d0 : Array (ZIn w g)} : CmpLays Tryd.prog 81 #[] (yenc (w := w) (g := g)) 2 ycmp g 0 size w := by
  intro m os dk hs x y
  have hg : w.grownBy (sortWorldK yenc 2 w g 0 m dk os) (some g) := SWK.grownBy (enc := yenc) (k := 2) (d := dk) ⟨m, os, rfl⟩
  refine (pcmp_any x.1.1 y.1.1 x.1.2.2 y.1.2.2 x.1.2.1 y.1.2.1 _ (x.2.grown hg).1 (y.2.grown hg).1).mono ?_
  rintro e w' ⟨rfl, q, os', rfl⟩
  exact ⟨rfl, q, os', rfl⟩
set_option maxHeartbeats 4000000 in
theorem vsort_any (v : Value) (ps : List Pt) (base : Nat) (w : World) (h : OV w base v ps) (hl : ps.length ≤ 1000000) :
    Calls Tryd.prog 80 #[v, .func (.func 81) #[] #[]] w fun e w' => e = .returned (.tuple #[]) ∧ ∃ qs : List Pt, qs.Perm ps ∧ Weak qs ∧ VS w' v qs ∧ (∀ W, Below base W w → Below base W w') := by
  obtain ⟨zs, h1, h2, h3⟩ := h
  rcases h2.2 with ⟨rfl, h0⟩ | ⟨g, cap, cur, rfl, hbg, hg, hle, hcap, -, -⟩
  · obtain rfl : ps = [] := List.eq_nil_of_length_eq_zero h0
    clear h1 h2 h3 h0
    have mixed : Tryd.prog.follows .mixedOrders = true := by kernel_rfl
    have HS : Calls Tryd.prog 113 #[.slice none 0 0, .int .i64 0, .func (.func 81) #[] #[]] w fun e w' => e = .returned (.tuple #[]) ∧ w' = w := by
      have HI : Calls Tryd.prog 126 #[.slice none 0 0, .int .i64 0, .int .i64 0, .func (.func 81) #[] #[]] w fun e w' => e = .returned (.tuple #[]) ∧ w' = w := by
        go_enter Tryd.func126, Tryd.ntmps126
        go_wp2_with fail
        go_loopw [8] (fun i wr => i = .int .i64 1 ∧ wr = w) (fun _ _ => 0)
        case atStart => exact ⟨rfl, rfl⟩
        case round =>
          obtain ⟨rfl, rfl⟩ := hrel
          go_wp2_with fail
          go_end0
          exact ⟨rfl, rfl⟩
      go_enter Tryd.func113, Tryd.ntmps113
      go_wp2_with fail
      go_loopw [7, 8] (fun i j wr => i = .int .i64 0 ∧ j = .int .i64 20 ∧ wr = w) (fun _ _ _ => 0)
      case atStart => exact ⟨rfl, rfl, rfl⟩
      case round =>
        obtain ⟨rfl, rfl, rfl⟩ := hrel
        go_wp2_with fail
        refine HI.mono ?_
        rintro e w1 ⟨rfl, rfl⟩
        go_wp2_with fail
        go_loopw [6] (fun i wr => i = .int .i64 20 ∧ wr = w1) (fun _ _ => 0)
        case atStart => exact ⟨rfl, rfl⟩
        case round =>
          obtain ⟨rfl, rfl⟩ := hrel
          go_wp2_with fail
          go_end0
          exact ⟨rfl, rfl⟩
    go_enter Tryd.func80, Tryd.ntmps80
    go_wp2_with fail
    refine HS.mono ?_
    rintro e w1 ⟨rfl, rfl⟩
    go_wp2_with fail
    go_end0
    exact ⟨rfl, [], List.Perm.refl _, List.Pairwise.nil, VS.nil _, fun W h => h⟩
  · obtain ⟨N, hN⟩ : ∃ N, N = ps.length := ⟨_, rfl⟩
    have hzl : zs.length = N := by rw [hN, ← h1]; simp
    rw [← hN] at h2 hl hle
    rw [← hN]
    have hgl : g < w.heap.size := (Array.getElem?_eq_some_iff.1 hg).1
    obtain ⟨L, hL⟩ : ∃ L : List (ZIn w g), L.map Subtype.val = zs := ⟨zs.attachWith (ZOk w (some g)) h3, List.attachWith_map_subtype_val ..⟩
    have hLl : L.length = N := by rw [← hzl, ← hL]; simp
    have hfl : L.flatMap yenc = zs.flatMap zenc := by rw [← hL, List.flatMap_map]; rfl
    rw [← hfl] at h2
    have hH := holdsK_own (enc := yenc) yenc_len (by decide) h2
    have R : RowK yenc 2 w g 0 L.toArray := ⟨yenc_len, fun x v hv => by
      obtain ⟨a, c, hs, -⟩ := x.2.1
      simp [yenc, zenc] at hv
      rcases hv with rfl | rfl
      · rw [hs]; rfl
      · rfl, hH, hgl⟩
    have HF := stable_P 2 (fun w => by rfl) 81 #[] (fun args w => by rfl) ycmp g 0 cap L.toArray L.toArray w w R rfl (SWK.start hH) (ycmp_lays (d0 := L.toArray)) ycmp_swo (by simp; omega)
    rw [List.size_toArray, hLl] at HF
    have HFF := Lib.hid HF
    have HR := Lib.hid R
    have HHH := Lib.hid hH
    have H1 := Lib.hid h1
    have HL := Lib.hid hL
    have HLl := Lib.hid hLl
    have HN := Lib.hid hN
    unfold maxLen at hcap
    clear HF R hH h2 h3 hg h1 hL hfl hzl hLl hN
    go_enter Tryd.func80, Tryd.ntmps80
    go_wp2_with fail
    refine HFF.out.mono ?_
    rintro e w1 ⟨rfl, d', hS, hz, hp, hs⟩
    have HS := Lib.hid hS
    have HZ := Lib.hid hz
    have HP := Lib.hid hp
    have HO := Lib.hid hs
    clear hS hz hp hs
    go_wp2_with fail
    go_end0
    have hlL := HLl.out
    have hz : d'.size = N := by have := HZ.out; simpa [hlL] using this
    have hperm : d'.toList.Perm L := by
      have := HP.out.2.2
      simp only [List.extract_toArray, List.extract_eq_take_drop, List.drop_zero] at this
      have e1 : (d'.extract 0 N).toList = d'.toList := by rw [← hz, Array.extract_size]
      rw [e1] at this
      simpa [← hlL] using this
    have hsl := SWK.slice (cap := cap) HS.out yenc_len (by decide) HHH.out hgl (by rw [hz]; simp [hlL]) ⟨by omega, by omega⟩
    rw [hz] at hsl
    have hgr := SWK.grownBy HS.out
    refine ⟨rfl, (d'.toList.map Subtype.val).map (·.2), ?_, ?_, vs_of (Sl.mapped (enc := zenc) (f := Subtype.val) hsl) ?_, ?_⟩
    · rw [← H1.out, ← HL.out]
      exact (hperm.map _).map _
    · unfold Weak
      rw [List.pairwise_map, List.pairwise_map, List.pairwise_iff_getElem]
      intro i j hi hj hij
      have := HO.out i j (Nat.zero_le _) hij (by simpa [hz] using hj)
      have hi2 : i < d'.size := by simpa using hi
      have hj2 : j < d'.size := by simpa using hj
      rw [getElem!_pos d' i hi2, getElem!_pos d' j hj2] at this
      have h2 : ¬ cmpL d'[j].1.2.1 d'[i].1.2.1 < 0 := of_decide_eq_false this
      have h3 := cmpL_neg d'[j].1.2.1 d'[i].1.2.1
      simp only [Array.getElem_toList]
      omega
    · intro z hz
      obtain ⟨y, hy, rfl⟩ := List.mem_map.1 hz
      exact (y.2.grown hgr).1
    · intro W hW
      exact hW.grown hgr (by omega) (fun j hj => by injection hj with hj; omega)
end Go.Proofs.YtogjcaakfnfapaaDoor
namespace Go.Proofs.YtogjcaakfnfapaaDoor
open Go Go.RowKit
set_option linter.unusedVariables false
set_option linter.unusedSimpArgs false
set_option maxRecDepth 100000
/-- What the sort is told of two values. -/
def acf (op : Int) (a b : Nat) : Int := if aheadF op a b then -1 else if aheadF op b a then 1 else 0
set_option maxHeartbeats 4000000 in
theorem acmp_any (op : Int) (g : Nat) (v1 v2 : Value) (l1 l2 : List Lb) (a b : Nat) (w : World) (ha : FB a) (hb : FB b) (hg : w.cell? ⟨g, 0, none⟩ = some (.int .i64 op)) (h1 : Sl lenc w v1 l1) (h2 : Sl lenc w v2 l2) :
    Calls Tryd.prog 93 #[.agg #[v1, .float .f64 a], .agg #[v2, .float .f64 b], .pointer (some ⟨g, 0, none⟩)] w fun e w' => e = .returned (.int .i64 (acf op a b)) ∧ Grew w w' := by
  have H1 := Lib.hid (fun w => ahead_any op a b w ha hb)
  have H2 := Lib.hid (fun w => ahead_any op b a w hb ha)
  have hgl : g < w.heap.size := World.block_lt_of_cell? w _ hg
  obtain ⟨a1, cap1, rfl, -, -⟩ := h1
  obtain ⟨a2, cap2, rfl, -, -⟩ := h2
  obtain ⟨n1, hn1⟩ : ∃ n, n = l1.length := ⟨_, rfl⟩
  obtain ⟨n2, hn2⟩ : ∃ n, n = l2.length := ⟨_, rfl⟩
  rw [← hn1, ← hn2]
  clear ha hb hn1 hn2
  obtain ⟨r, hr⟩ : ∃ r, r = acf op a b := ⟨_, rfl⟩
  rw [← hr]
  unfold acf at hr
  obtain ⟨s1, hs1⟩ : ∃ s, s = aheadF op a b := ⟨_, rfl⟩
  obtain ⟨s2, hs2⟩ : ∃ s, s = aheadF op b a := ⟨_, rfl⟩
  rw [← hs1] at H1 hr
  rw [← hs2] at H2 hr
  clear hs1 hs2
  have hg1 : ((w.alloc (.cells #[.slice a1 n1 cap1, .float .f64 a] 42)).alloc (.cells #[.slice a2 n2 cap2, .float .f64 b] 42)).cell? ⟨g, 0, none⟩ = some (.int .i64 op) := by
    rw [World.cell?_alloc_lt, World.cell?_alloc_lt]
    · exact hg
    · exact hgl
    · simp; omega
  have HG := Lib.hid (((Grew.refl w).alloc (.cells #[.slice a1 n1 cap1, .float .f64 a] 42)).alloc (.cells #[.slice a2 n2 cap2, .float .f64 b] 42))
  clear hg
  have hgl2 : g ≠ w.heap.size := by omega
  have hgl3 : g ≠ w.heap.size + 1 := by omega
  cases s1 with
  | true =>
    rw [if_pos rfl] at hr
    subst hr
    go_enter Tryd.func93, Tryd.ntmps93
    go_wp2_with fail
    refine (H1.out _).mono ?_
    rintro e w1 ⟨rfl, rfl⟩
    go_wp2_with fail
    go_ret
    exact ⟨rfl, HG.out⟩
  | false =>
    rw [if_neg (by decide)] at hr
    cases s2 with
    | true =>
      rw [if_pos rfl] at hr
      subst hr
      go_enter Tryd.func93, Tryd.ntmps93
      go_wp2_with fail
      refine (H1.out _).mono ?_
      rintro e w1 ⟨rfl, rfl⟩
      go_wp2_with fail
      refine (H2.out _).mono ?_
      rintro e w1 ⟨rfl, rfl⟩
      go_wp2_with fail
      go_ret
      exact ⟨rfl, HG.out⟩
    | false =>
      rw [if_neg (by decide)] at hr
      subst hr
      go_enter Tryd.func93, Tryd.ntmps93
      go_wp2_with fail
      refine (H1.out _).mono ?_
      rintro e w1 ⟨rfl, rfl⟩
      go_wp2_with fail
      refine (H2.out _).mono ?_
      rintro e w1 ⟨rfl, rfl⟩
      go_wp2_with fail
      go_ret
      exact ⟨rfl, HG.out⟩
end Go.Proofs.YtogjcaakfnfapaaDoor
namespace Go.Proofs.YtogjcaakfnfapaaDoor
open Go.Sort
set_option linter.unusedVariables false
set_option linter.unusedSimpArgs false
section
variable {α : Type}
/-- x put ahead of the first that it comes ahead of. -/
def insF (lt : α → α → Bool) (x : α) : List α → List α
  | [] => [x]
  | y :: r => if lt x y then x :: y :: r else y :: insF lt x r
def stabF (lt : α → α → Bool) (l : List α) : List α := l.foldl (fun out x => insF lt x out) []
theorem insF_perm (lt : α → α → Bool) (x : α) : ∀ l : List α, (insF lt x l).Perm (x :: l)
  | [] => List.Perm.refl _
  | y :: r => by
    unfold insF
    split
    · exact List.Perm.refl _
    · exact ((insF_perm lt x r).cons y).trans (List.Perm.swap x y r)
theorem stab_snoc (lt : α → α → Bool) (l : List α) (x : α) : stabF lt (l ++ [x]) = insF lt x (stabF lt l) := by
  unfold stabF; rw [List.foldl_append]; rfl
theorem stab_perm (lt : α → α → Bool) (l : List α) : (stabF lt l).Perm l := by
  have : ∀ (l out : List α), (l.foldl (fun out x => insF lt x out) out).Perm (out ++ l) := by
    intro l
    induction l with
    | nil => intro out; simp
    | cons x l ih =>
      intro out
      refine (ih _).trans ?_
      refine ((insF_perm lt x out).append_right l).trans ?_
      simpa using (List.perm_middle (l₁ := out) (l₂ := l) (a := x)).symm
  have h := this l []
  rw [List.nil_append] at h
  exact h
theorem insF_map {β : Type} (f : α → β) (lt : β → β → Bool) (x : α) : ∀ l : List α, (insF (fun a b => lt (f a) (f b)) x l).map f = insF lt (f x) (l.map f)
  | [] => rfl
  | y :: r => by
    unfold insF
    simp only [List.map_cons]
    split
    · rfl
    · rw [List.map_cons, insF_map f lt x r]
theorem stab_map {β : Type} (f : α → β) (lt : β → β → Bool) (l : List α) : (stabF (fun a b => lt (f a) (f b)) l).map f = stabF lt (l.map f) := by
  have : ∀ (l out : List α), (l.foldl (fun out x => insF (fun a b => lt (f a) (f b)) x out) out).map f = (l.map f).foldl (fun out x => insF lt x out) (out.map f) := by
    intro l
    induction l with
    | nil => intro out; rfl
    | cons x l ih => intro out; rw [List.foldl_cons, ih, insF_map]; rfl
  exact this l []
/-- With its place: what is told of two that neither comes ahead of. -/
def lexI (lt : α → α → Bool) (p q : α × Nat) : Bool := lt p.1 q.1 || (!lt q.1 p.1 && decide (p.2 < q.2))
theorem lexI_swo {lt : α → α → Bool} (h : SWO lt) : SWO (lexI lt) := by
  have na : ∀ {x y z : α}, lt x z = true → lt x y = true ∨ lt y z = true := fun {x y z} h1 => by
    cases h2 : lt x y with
    | true => exact .inl rfl
    | false =>
      cases h3 : lt y z with
      | true => exact .inr rfl
      | false => rw [h.ntrans x y z h2 h3] at h1; cases h1
  refine ⟨fun x => ?_, fun x y z h1 h2 => ?_, fun x y z h1 h2 => ?_⟩
  · simp [lexI, h.irrefl]
  · unfold lexI at *
    simp only [Bool.or_eq_true, Bool.and_eq_true, Bool.not_eq_true', decide_eq_true_eq] at *
    rcases h1 with h1 | ⟨h1, i1⟩
    · rcases h2 with h2 | ⟨h2, i2⟩
      · exact .inl (h.trans _ _ _ h1 h2)
      · refine .inl ?_
        rcases na (y := z.1) h1 with h3 | h3
        · exact h3
        · rw [h3] at h2; cases h2
    · rcases h2 with h2 | ⟨h2, i2⟩
      · refine .inl ?_
        rcases na (y := x.1) h2 with h3 | h3
        · rw [h3] at h1; cases h1
        · exact h3
      · exact .inr ⟨h.ntrans _ _ _ h2 h1, by omega⟩
  · unfold lexI at *
    simp only [Bool.or_eq_false_iff, Bool.and_eq_false_iff, Bool.not_eq_false', decide_eq_false_iff_not] at *
    obtain ⟨a1, a2⟩ := h1
    obtain ⟨b1, b2⟩ := h2
    refine ⟨h.ntrans _ _ _ a1 b1, ?_⟩
    rcases a2 with a2 | a2
    · rcases na (y := z.1) a2 with h3 | h3
      · rw [h3] at b1; cases b1
      · exact .inl h3
    · rcases b2 with b2 | b2
      · rcases na (y := x.1) b2 with h3 | h3
        · exact .inl h3
        · rw [h3] at a1; cases a1
      · exact .inr (by omega)
theorem insF_sorted {lt : α → α → Bool} (h : SWO lt) (p : α × Nat) : ∀ l : List (α × Nat), l.Pairwise (fun a b => lexI lt b a = false) → (∀ q ∈ l, q.2 < p.2) → (insF (fun a b : α × Nat => lt a.1 b.1) p l).Pairwise (fun a b => lexI lt b a = false)
  | [], _, _ => by simp [insF]
  | y :: r, hp, hi => by
    obtain ⟨h1, h2⟩ := List.pairwise_cons.1 hp
    unfold insF
    split
    · rename_i hlt
      refine List.pairwise_cons.2 ⟨fun z hz => ?_, hp⟩
      have key : lt p.1 z.1 = true := by
        rcases List.mem_cons.1 hz with rfl | hz
        · exact hlt
        · have h3 := h1 z hz
          unfold lexI at h3
          rw [Bool.or_eq_false_iff] at h3
          cases h4 : lt p.1 z.1 with
          | true => rfl
          | false => rw [h.ntrans _ _ _ h4 h3.1] at hlt; cases hlt
      have k2 : lt z.1 p.1 = false := by
        cases h5 : lt z.1 p.1 with
        | false => rfl
        | true => have := h.trans _ _ _ key h5; rw [h.irrefl] at this; cases this
      simp [lexI, key, k2]
    · rename_i hlt
      refine List.pairwise_cons.2 ⟨fun z hz => ?_, insF_sorted h p r h2 (fun q hq => hi q (List.mem_cons_of_mem _ hq))⟩
      rcases List.mem_cons.1 ((insF_perm _ p r).subset hz) with rfl | hz
      · have := hi y (List.mem_cons_self ..)
        have hlt : lt z.1 y.1 = false := by simpa using hlt
        simp [lexI, hlt]
        intro _; omega
      · exact h1 z hz
theorem stab_sorted {lt : α → α → Bool} (h : SWO lt) (l : List α) : (stabF (fun a b : α × Nat => lt a.1 b.1) l.zipIdx).Pairwise (fun a b => lexI lt b a = false) := by
  have : ∀ (n : Nat), n ≤ l.length → (stabF (fun a b : α × Nat => lt a.1 b.1) (l.zipIdx.take n)).Pairwise (fun a b => lexI lt b a = false) := by
    intro n
    induction n with
    | zero => intro _; simp [stabF]
    | succ n ih =>
      intro hn
      rw [List.take_succ_eq_append_getElem (by rw [List.length_zipIdx]; omega), stab_snoc]
      refine insF_sorted h _ _ (ih (by omega)) fun q hq => ?_
      have := (stab_perm _ _).subset hq
      obtain ⟨j, hj, rfl⟩ := List.mem_iff_getElem.1 this
      have : j < n := by simp at hj; omega
      simpa using this
  have h2 := this l.length (Nat.le_refl _)
  rwa [List.take_of_length_le (by simp)] at h2
/-- Whatever is a permutation of the pairs, in order, is the stable sort. -/
theorem stab_unique {lt : α → α → Bool} (h : SWO lt) (l : List α) {d : List (α × Nat)} (hp : d.Perm l.zipIdx) (hs : d.Pairwise (fun a b => lexI lt b a = false)) : d.map Prod.fst = stabF lt l := by
  have e : d = stabF (fun a b : α × Nat => lt a.1 b.1) l.zipIdx := by
    refine List.Perm.eq_of_pairwise (le := fun a b => lexI lt b a = false) (fun a b ha hb h1 h2 => ?_) hs (stab_sorted h l) (hp.trans (stab_perm _ _).symm)
    have ha' := List.mem_zipIdx_iff_getElem?.1 (hp.subset ha)
    have hb' := List.mem_zipIdx_iff_getElem?.1 ((stab_perm _ _).subset hb)
    unfold lexI at h1 h2
    rw [Bool.or_eq_false_iff] at h1 h2
    have e2 : a.2 = b.2 := by
      have i1 := h1.2
      have i2 := h2.2
      rw [h2.1] at i1
      rw [h1.1] at i2
      simp at i1 i2
      omega
    rw [e2, hb'] at ha'
    injection ha' with e1
    exact Prod.ext e1.symm e2
  rw [e, stab_map Prod.fst lt, List.zipIdx_map_fst]
end
end Go.Proofs.YtogjcaakfnfapaaDoor
namespace Go.Proofs.YtogjcaakfnfapaaDoor
open Go Go.RowKit Go.Lib Go.Sort
set_option linter.unusedVariables false
set_option linter.unusedSimpArgs false
set_option maxRecDepth 100000
def aheadZ (op : Int) (x y : ZPt) : Bool := aheadF op x.2.2 y.2.2
theorem aheadZ_swo (op : Int) : SWO (aheadZ op) := by
  have h := keylt_swo (fun z : ZPt => akey op z.2.2)
  have e : aheadZ op = fun x y => keylt (akey op x.2.2) (akey op y.2.2) := by
    funext x y; exact ahead_key op _ _
  rw [e]; exact h
abbrev AIn (w : World) (g : Nat) := {p : ZPt × Nat // ZOk w (some g) p.1 ∧ FB p.1.2.2}
instance (w : World) (g : Nat) : Inhabited (AIn w g) := ⟨⟨((.slice none 0 0, [], 0), 0), ⟨Sl.nil _, fun h => absurd rfl h⟩, (by show (0 : Nat) < 18446744073709551616; decide)⟩⟩
def aenc {w : World} {g : Nat} (y : AIn w g) : List Value := zenc y.1.1
theorem aenc_len {w : World} {g : Nat} (y : AIn w g) : (aenc y).length = 2 := rfl
def acfK (op : Int) {w : World} {g : Nat} (x y : AIn w g) : Int := acf op x.1.1.2.2 y.1.1.2.2
def altK (op : Int) {w : World} {g : Nat} (x y : AIn w g) : Bool := lexI (aheadZ op) x.1 y.1
theorem altK_swo (op : Int) {w : World} {g : Nat} : SWO (altK op (w := w) (g := g)) := by
  have h := lexI_swo (aheadZ_swo op)
  exact ⟨fun x => h.irrefl _, fun x y z => h.trans _ _ _, fun x y z => h.ntrans _ _ _⟩
def AQ {w : World} {g : Nat} (p q : AIn w g) : Prop := q.1.2 < p.1.2
theorem alt_tests (op : Int) {w : World} {g : Nat} : Tests AQ (acfK op (w := w) (g := g)) (altK op) := by
  refine ⟨fun p q hq h => ?_, fun p q hq h => ?_⟩
  · have h1 : aheadZ op p.1.1 q.1.1 = true := by
      unfold acfK acf at h
      unfold aheadZ
      cases hh : aheadF op p.1.1.2.2 q.1.1.2.2 with
      | true => rfl
      | false => rw [hh] at h; simp at h; split at h <;> omega
    simp [altK, lexI, h1]
  · have h1 : aheadZ op p.1.1 q.1.1 = false := by
      unfold acfK acf at h
      unfold aheadZ
      cases hh : aheadF op p.1.1.2.2 q.1.1.2.2 with
      | false => rfl
      | true => rw [hh] at h; simp at h
    have h2 : ¬ p.1.2 < q.1.2 := by unfold AQ at hq; omega
    simp [altK, lexI, h1, h2]
theorem acf_lays {w : World} {g : Nat} {size bop : Nat} {op : Int} (hop : w.cell? ⟨bop, 0, none⟩ = some (.int .i64 op)) (hne : some bop ≠ some g) :
    CmpLays Tryd.prog 93 #[.pointer (some ⟨bop, 0, none⟩)] (aenc (w := w) (g := g)) 2 (acfK op) g 0 size w := by
  intro m os dk hs x y
  have hg : w.grownBy (sortWorldK aenc 2 w g 0 m dk os) (some g) := SWK.grownBy (enc := aenc) (k := 2) (d := dk) ⟨m, os, rfl⟩
  refine (acmp_any op bop x.1.1.1 y.1.1.1 x.1.1.2.1 y.1.1.2.1 x.1.1.2.2 y.1.1.2.2 _ x.2.2 y.2.2 (hg.cell hop (by simpa using hne)) (x.2.1.grown hg).1 (y.2.1.grown hg).1).mono ?_
  rintro e w' ⟨rfl, q, os', rfl⟩
  exact ⟨rfl, q, os', rfl⟩
set_option maxHeartbeats 4000000 in
theorem asort_any (op : Int) (bop g cap : Nat) (zs : List ZPt) (base : Nat) (w : World) (hown : w.ownsRow base 42 2 (.slice (some ⟨g, 0, none⟩) zs.length cap) zs.length (zs.flatMap zenc)) (hz : ∀ z ∈ zs, ZOk w (some g) z ∧ FB z.2.2)
    (hop : w.cell? ⟨bop, 0, none⟩ = some (.int .i64 op)) (hne : some bop ≠ some g) (hl : zs.length ≤ 1000000) :
    Calls Tryd.prog 92 #[.slice (some ⟨g, 0, none⟩) zs.length cap, .func (.func 93) #[] #[.pointer (some ⟨bop, 0, none⟩)]] w fun e w' => e = .returned (.tuple #[]) ∧
      Sl zenc w' (.slice (some ⟨g, 0, none⟩) zs.length cap) (stabF (aheadZ op) zs) ∧ w.grownBy w' (some g) := by
  obtain ⟨N, hN⟩ : ∃ N, N = zs.length := ⟨_, rfl⟩
  rw [← hN] at hown hl ⊢
  rcases hown.2 with ⟨h0, -⟩ | ⟨g', cap', cur, e, hbg, hg, hle, hcap, -, -⟩
  · cases h0
  injection e with e1 e2 e3
  injection e1 with e1
  injection e1 with e1 _ _
  subst e1 e3
  have hgl : g < w.heap.size := (Array.getElem?_eq_some_iff.1 hg).1
  obtain ⟨L, hL⟩ : ∃ L : List (AIn w g), L.map Subtype.val = zs.zipIdx := ⟨zs.zipIdx.attachWith (fun p => ZOk w (some g) p.1 ∧ FB p.1.2.2) (fun p hp => hz p.1 (by
    have := List.mem_zipIdx_iff_getElem?.1 hp
    exact List.mem_of_getElem? this)), List.attachWith_map_subtype_val ..⟩
  have hLl : L.length = N := by rw [hN, ← List.length_zipIdx (l := zs) (i := 0), ← hL]; simp
  have hfl : L.flatMap aenc = zs.flatMap zenc := by
    have e1 : zs = (L.map Subtype.val).map Prod.fst := by rw [hL, List.zipIdx_map_fst]
    rw [e1, List.map_map, List.flatMap_map]; rfl
  rw [← hfl] at hown
  have hH := holdsK_own (enc := aenc) aenc_len (by decide) hown
  have R : RowK aenc 2 w g 0 L.toArray := ⟨aenc_len, fun x v hv => by
    obtain ⟨a, c, hs, -⟩ := x.2.1.1
    simp [aenc, zenc] at hv
    rcases hv with rfl | rfl
    · rw [hs]; rfl
    · rfl, hH, hgl⟩
  have hidx : ∀ i (hi : i < L.length), (L[i]).1.2 = i := fun i hi => by
    have h1 : (L.map Subtype.val)[i]'(by simpa using hi) = zs.zipIdx[i]'(by simp; omega) := by simp only [hL]
    rw [List.getElem_map] at h1
    rw [h1]; simp
  have HF := stableQ_P 2 (fun w => by rfl) 93 #[.pointer (some ⟨bop, 0, none⟩)] (fun args w => by rfl) (acfK op) g 0 cap L.toArray L.toArray w w R rfl (SWK.start hH) (acf_lays (size := L.toArray.size) hop hne) (alt_tests op) (fun x y h1 h2 h3 h4 => by
    have hy : y < L.length := by simpa using h4
    rw [getElem!_pos L.toArray y (by simpa using hy), getElem!_pos L.toArray x (by simp; omega)]
    show (L[x]).1.2 < (L[y]).1.2
    rw [hidx, hidx]; exact h2) (altK_swo op) (by simp; omega)
  rw [List.size_toArray, hLl] at HF
  have HFF := Lib.hid HF
  have HR := Lib.hid R
  have HHH := Lib.hid hH
  have HL := Lib.hid hL
  have HLl := Lib.hid hLl
  have HN := Lib.hid hN
  unfold maxLen at hcap
  clear HF R hH hown hz hg hL hfl hLl hN hidx hop
  go_enter Tryd.func92, Tryd.ntmps92
  go_wp2_with fail
  refine HFF.out.mono ?_
  rintro e w1 ⟨rfl, d', hS, hz, hp, hs⟩
  have HS := Lib.hid hS
  have HZ := Lib.hid hz
  have HP := Lib.hid hp
  have HO := Lib.hid hs
  clear hS hz hp hs
  go_wp2_with fail
  go_end0
  have hlL := HLl.out
  have hz : d'.size = N := by have := HZ.out; simpa [hlL] using this
  have hperm : d'.toList.Perm L := by
    have := HP.out.2.2
    simp only [List.extract_toArray, List.extract_eq_take_drop, List.drop_zero] at this
    have e1 : (d'.extract 0 N).toList = d'.toList := by rw [← hz, Array.extract_size]
    rw [e1] at this
    simpa [← hlL] using this
  have hsl := SWK.slice (cap := cap) HS.out aenc_len (by decide) HHH.out hgl (by rw [hz]; simp [hlL]) ⟨by omega, by omega⟩
  rw [hz] at hsl
  have hu := stab_unique (aheadZ_swo op) zs (d := d'.toList.map Subtype.val) (by rw [← HL.out]; exact hperm.map _) (by
    rw [List.pairwise_map, List.pairwise_iff_getElem]
    intro i j hi hj hij
    have := HO.out i j (Nat.zero_le _) hij (by simpa [hz] using hj)
    have hi2 : i < d'.size := by simpa using hi
    have hj2 : j < d'.size := by simpa using hj
    rw [getElem!_pos d' i hi2, getElem!_pos d' j hj2] at this
    exact this)
  refine ⟨rfl, ?_, SWK.grownBy HS.out⟩
  rw [← hu, List.map_map]
  exact Sl.mapped (enc := zenc) (f := fun y : AIn w g => y.1.1) hsl
end Go.Proofs.YtogjcaakfnfapaaDoor
namespace Go.Proofs.YtogjcaakfnfapaaDoor
open Go Go.RowKit
set_option linter.unusedVariables false
set_option linter.unusedSimpArgs false
def putAt (q : List Pt) (j : Nat) (p : Pt) : List Pt := q.take j ++ p :: q.drop j
theorem putAt_perm (q : List Pt) (j : Nat) (p : Pt) : (putAt q j p).Perm (q ++ [p]) := by
  refine List.perm_middle.trans ?_
  rw [List.take_append_drop]
  exact (List.perm_append_singleton p q).symm
theorem low_take {q : List Pt} {p : Pt} {j : Nat} (h1 : ∀ m (hm : m < q.length), m < j → cmpL q[m].1 p.1 < 0) : ∀ a ∈ q.take j, cmpL a.1 p.1 < 0 := by
  intro a ha
  obtain ⟨m, hm, rfl⟩ := List.mem_iff_getElem.1 ha
  rw [List.length_take] at hm
  rw [List.getElem_take]
  exact h1 m (by omega) (by omega)
theorem high_drop {q : List Pt} {p : Pt} {j : Nat} (h : Weak q) (h2 : ∀ hj : j < q.length, 0 ≤ cmpL q[j].1 p.1) : ∀ b ∈ q.drop j, cmpL p.1 b.1 ≤ 0 := by
  intro b hb
  obtain ⟨m, hm, rfl⟩ := List.mem_iff_getElem.1 hb
  rw [List.length_drop] at hm
  rw [List.getElem_drop]
  have hj : j < q.length := by omega
  have e1 := h2 hj
  have e2 := cmpL_neg q[j].1 p.1
  cases m with
  | zero => simp only [Nat.add_zero]; omega
  | succ m =>
    have e3 := List.pairwise_iff_getElem.1 h j (j + (m + 1)) hj (by omega) (by omega)
    exact (cmpL_trans _ _ _ (by omega) e3).1
theorem high_drop' {q : List Pt} {p : Pt} {j : Nat} (h : Weak q) (h2 : ∀ hj : j < q.length, 0 < cmpL q[j].1 p.1) : ∀ b ∈ q.drop j, cmpL p.1 b.1 < 0 := by
  intro b hb
  obtain ⟨m, hm, rfl⟩ := List.mem_iff_getElem.1 hb
  rw [List.length_drop] at hm
  rw [List.getElem_drop]
  have hj : j < q.length := by omega
  have e1 := h2 hj
  have e2 := cmpL_neg q[j].1 p.1
  cases m with
  | zero => simp only [Nat.add_zero]; omega
  | succ m =>
    have e3 := List.pairwise_iff_getElem.1 h j (j + (m + 1)) hj (by omega) (by omega)
    exact (cmpL_trans _ _ _ (by omega) e3).2 (.inl (by omega))
theorem putAt_weak {q : List Pt} {p : Pt} {j : Nat} (h : Weak q) (h1 : ∀ m (hm : m < q.length), m < j → cmpL q[m].1 p.1 < 0) (h2 : ∀ hj : j < q.length, 0 ≤ cmpL q[j].1 p.1) : Weak (putAt q j p) := by
  have hl := low_take h1
  have hh := high_drop h h2
  unfold Weak putAt
  rw [List.pairwise_append, List.pairwise_cons]
  refine ⟨h.sublist (List.take_sublist _ _), ⟨hh, h.sublist (List.drop_sublist _ _)⟩, fun a ha b hb => ?_⟩
  rcases List.mem_cons.1 hb with rfl | hb
  · have := hl a ha; omega
  · have := hl a ha
    exact (cmpL_trans _ _ _ (by omega) (hh b hb)).1
theorem putAt_strict {q : List Pt} {p : Pt} {j : Nat} (h : Strict q) (h1 : ∀ m (hm : m < q.length), m < j → cmpL q[m].1 p.1 < 0) (h2 : ∀ hj : j < q.length, 0 < cmpL q[j].1 p.1) : Strict (putAt q j p) := by
  have hw : Weak q := h.imp fun h => by omega
  have hl := low_take h1
  have hh := high_drop' hw h2
  unfold Strict putAt
  rw [List.pairwise_append, List.pairwise_cons]
  refine ⟨h.sublist (List.take_sublist _ _), ⟨hh, h.sublist (List.drop_sublist _ _)⟩, fun a ha b hb => ?_⟩
  rcases List.mem_cons.1 hb with rfl | hb
  · exact hl a ha
  · have e1 := hl a ha
    have e2 := hh b hb
    exact (cmpL_trans _ _ _ (by omega) (by omega)).2 (.inl e1)
theorem putAt_dup {q : List Pt} {p : Pt} {j : Nat} (hj : j < q.length) (he : cmpL q[j].1 p.1 = 0) : ¬ ((putAt q j p).map (·.1)).Nodup := by
  intro hn
  have h1 := ((putAt_perm q j p).map (·.1)).nodup_iff.1 hn
  rw [List.map_append, List.nodup_append] at h1
  exact h1.2.2 q[j].1 (List.mem_map.2 ⟨_, List.getElem_mem hj, rfl⟩) p.1 (by simp) ((cmpL_eq _ _).1 he)
theorem putAt_dup' {q : List Pt} {p : Pt} {j : Nat} (h : ¬ (q.map (·.1)).Nodup) : ¬ ((putAt q j p).map (·.1)).Nodup := by
  intro hn
  have h1 := ((putAt_perm q j p).map (·.1)).nodup_iff.1 hn
  rw [List.map_append, List.nodup_append] at h1
  exact h h1.1
end Go.Proofs.YtogjcaakfnfapaaDoor
