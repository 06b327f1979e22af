/- The library's stable sort at elements of k cells: blocks, then merges. Labels, sorted by their names. labels.Set. Sets of labels, in plain words: what a sorted list without its empty ones is; the document's insertion. (Several texts in one file, by merge.py.) -/
import Derived.Test.YtnnfhcbopchodaaDoorZN7
import Derived.Test.YtnnfhcbopchodaaDoorZN6
namespace Go.Proofs.YtnnfhcbopchodaaDoor
open Go.Shelf Go.RowKit Go.Lib Go.Sort
set_option linter.unusedVariables false
set_option linter.unusedSimpArgs false
set_option maxRecDepth 100000

section
variable {α : Type} [Inhabited α] {enc : α → List Value} {lt : α → α → Bool}
def Blk (lt : α → α → Bool) (s n t0 : Nat) (d : Array α) : Prop := ∀ t, t0 ≤ t → SortedIn lt (s * t) (min (s * t + s) n) d
def Bel (lt : α → α → Bool) (s q : Nat) (d : Array α) : Prop := ∀ t, t < q → SortedIn lt (s * t) (s * t + s) d
theorem bel_step {s q : Nat} {d d' : Array α} (h : Bel lt s q d) (hp : PermIn (s * q) (s * q + s) d d') (hs : SortedIn lt (s * q) (s * q + s) d') : Bel lt s (q + 1) d' := by
  intro t ht
  by_cases hc : t = q
  · subst hc; exact hs
  · have := Nat.mul_le_mul_left s (show t + 1 ≤ q by omega)
    rw [Nat.mul_add, Nat.mul_one] at this
    exact SortedIn.congr (h t (by omega)) fun x h1 h2 => hp.2.1 x (.inl (by omega))
theorem bel_end {s q n : Nat} {d d' : Array α} (h : Bel lt s q d) (hn : s * q ≤ n) (hn2 : n < s * q + s) (hp : PermIn (s * q) n d d') (hs : SortedIn lt (s * q) n d') : Blk lt s n 0 d' := by
  intro t _
  rcases Nat.lt_trichotomy t q with hc | hc | hc
  · have := Nat.mul_le_mul_left s (show t + 1 ≤ q by omega)
    rw [Nat.mul_add, Nat.mul_one] at this
    rw [Nat.min_eq_left (by omega)]
    exact SortedIn.congr (h t (by omega)) fun x h1 h2 => hp.2.1 x (.inl (by omega))
  · subst hc
    rw [Nat.min_eq_right (by omega)]
    exact hs
  · have := Nat.mul_le_mul_left s (show q + 1 ≤ t by omega)
    rw [Nat.mul_add, Nat.mul_one] at this
    intro x y h1 h2 h3
    have := Nat.min_le_right (s * t + s) n
    omega
theorem blk_step {s q n : Nat} {d d' : Array α} (h : Blk lt s n (2 * q) d) (hp : PermIn (2 * s * q) (2 * s * q + 2 * s) d d') : Blk lt s n (2 * (q + 1)) d' := by
  intro t ht
  have := Nat.mul_le_mul_left s (show 2 * q + 2 ≤ t by omega)
  rw [Nat.mul_add, ← Nat.mul_assoc, Nat.mul_comm s 2] at this
  exact SortedIn.congr (h t (by omega)) fun x h1 h2 => hp.2.1 x (.inr (by omega))
theorem blk_parts {s q n : Nat} {d : Array α} (h : Blk lt s n (2 * q) d) : SortedIn lt (2 * s * q) (min (2 * s * q + s) n) d ∧ SortedIn lt (2 * s * q + s) (min (2 * s * q + 2 * s) n) d := by
  have h1 := h (2 * q) (Nat.le_refl _)
  have h2 := h (2 * q + 1) (by omega)
  have e1 : s * (2 * q) = 2 * s * q := by rw [← Nat.mul_assoc, Nat.mul_comm s 2]
  have e2 : s * (2 * q + 1) = 2 * s * q + s := by rw [Nat.mul_add, e1, Nat.mul_one]
  rw [e1] at h1
  rw [e2, show 2 * s * q + s + s = 2 * s * q + 2 * s by omega] at h2
  exact ⟨h1, h2⟩

def StA (enc : α → List Value) (k : Nat) (w0 : World) (blk off : Nat) (lt : α → α → Bool) (d : Array α) (iv jv : Value) (wr : World) : Prop := ∃ (a q : Nat) (dk : Array α), iv = .int .i64 a ∧ jv = .int .i64 ((a : Int) + 20) ∧ a = 20 * q ∧ a ≤ d.size ∧ dk.size = d.size ∧ PermIn 0 d.size d dk ∧ Bel lt 20 q dk ∧ SWK enc k w0 blk off dk wr
def StB (enc : α → List Value) (k : Nat) (w0 : World) (blk off : Nat) (lt : α → α → Bool) (d : Array α) (sv : Value) (wr : World) : Prop := ∃ (s : Nat) (dk : Array α), sv = .int .i64 s ∧ 0 < s ∧ s < 4611686018427387904 + 4611686018427387904 ∧ dk.size = d.size ∧ PermIn 0 d.size d dk ∧ Blk lt s d.size 0 dk ∧ SWK enc k w0 blk off dk wr
def StC (enc : α → List Value) (k : Nat) (w0 : World) (blk off : Nat) (lt : α → α → Bool) (s : Nat) (d : Array α) (iv jv : Value) (wr : World) : Prop := ∃ (a q : Nat) (dk : Array α), iv = .int .i64 a ∧ jv = .int .i64 ((a : Int) + 2 * (s : Int)) ∧ a = 2 * s * q ∧ a ≤ d.size ∧ dk.size = d.size ∧ PermIn 0 d.size d dk ∧ Bel lt (2 * s) q dk ∧ Blk lt s d.size (2 * q) dk ∧ SWK enc k w0 blk off dk wr

set_option maxHeartbeats 8000000 in
theorem stable_Lb (k : Nat) (zE : ∀ w, (Go.sizeOf 88).run Tryd.prog w = .ok k w) (g : Nat) (cb : Array Value) (eg : ∀ args w, (callFunc g args).run Tryd.prog w = .ok (.enter g args) w) (cf : α → α → Int) (blk off cap : Nat) (d0 d : Array α) (w0 w : World)
    (R : RowK enc k w0 blk off d0) (hs : d0.size = d.size) (S : SWK enc k w0 blk off d w) (hC : CmpLays Tryd.prog g cb enc k cf blk off d0.size w0) (hS : SWO (ltOf cf)) (hsz : d.size < 4611686018427387904) :
    Calls Tryd.prog 73 #[.slice (some ⟨blk, off, none⟩) d.size cap, .int .i64 d.size, .func (.func g) #[] cb] w fun e w' => e = .returned (.tuple #[]) ∧ Merged enc k w0 blk off (ltOf cf) 0 d.size d w' := by
  have S0 : Aside (SWK enc k w0 blk off d w) := S
  have mixed : Tryd.prog.follows .mixedOrders = true := by kernel_rfl
  have hins : ∀ (a b : Nat) (dk : Array α) (wk : World), dk.size = d.size → SWK enc k w0 blk off dk wk → a ≤ b → b ≤ d.size → Calls Tryd.prog 82 #[.slice (some ⟨blk, off, none⟩) d.size cap, .int .i64 a, .int .i64 b, .func (.func g) #[] cb] wk fun e w' => e = .returned (.tuple #[]) ∧ Merged enc k w0 blk off (ltOf cf) a b dk w' := by
    intro a b dk wk hz hSk hab hb
    have h := insertion_Lb k zE g cb eg cf blk off cap a b d0 dk w0 wk R (by omega) hSk hC hS hab (by omega) (by omega)
    rw [hz] at h
    exact h
  have hmrg : ∀ (a m b : Nat) (dk : Array α) (wk : World), dk.size = d.size → SWK enc k w0 blk off dk wk → a < m → m < b → b ≤ d.size → SortedIn (ltOf cf) a m dk → SortedIn (ltOf cf) m b dk → Calls Tryd.prog 83 #[.slice (some ⟨blk, off, none⟩) d.size cap, .int .i64 a, .int .i64 m, .int .i64 b, .func (.func g) #[] cb] wk fun e w' => e = .returned (.tuple #[]) ∧ Merged enc k w0 blk off (ltOf cf) a b dk w' := by
    intro a m b dk wk hz hSk ham hmb hb h1 h2
    have h := symMerge_Lb k zE g cb eg cf blk off cap d0 w0 R hC hS (by omega) (b - a) a m b dk wk (Nat.le_refl _) (by omega) hSk ham hmb (by omega) h1 h2
    rw [hz] at h
    exact h
  have HINS := Lib.hid hins
  have HMRG := Lib.hid hmrg
  have HS := Lib.hid hs
  clear S hC hS hs hins hmrg
  go_enter Tryd.func73, Tryd.ntmps73
  go_wp2_with fail
  go_loopw [7, 8] (fun iv jv wr => StA enc k w0 blk off (ltOf cf) d iv jv wr) (fun iv jv _ => d.size - (intOf iv).toNat)
  case atStart => exact ⟨0, 0, d, rfl, rfl, rfl, Nat.zero_le _, rfl, permIn_refl _ _ _, fun t ht => absurd ht (Nat.not_lt_zero _), S0.out⟩
  case round =>
    clear S0
    obtain ⟨a, q, dk, rfl, rfl, haq, han, hz, hp, hbl, hSk⟩ := hrel
    have S1 := Lib.hid hSk
    have HP := Lib.hid hp
    have HB := Lib.hid hbl
    have HZ := Lib.hid hz
    have HQ := Lib.hid haq
    clear hSk hp hbl hz haq
    by_cases hlt : a + 20 ≤ d.size
    · have hltz : (a : Int) + 20 ≤ (d.size : Int) := by omega
      have HCALL := Lib.hid (HINS.out a (a + 20) dk wr HZ.out S1.out (by omega) hlt)
      rw [show ((a + 20 : Nat) : Int) = (a : Int) + 20 by omega] at HCALL
      go_wp2_with fail
      refine HCALL.out.mono ?_
      rintro e1 w1 ⟨rfl, d1, hSd, hz1, hp1, hs1⟩
      have S2 := Lib.hid hSd
      have HZ1 := Lib.hid hz1
      have HP1 := Lib.hid hp1
      have HS1 := Lib.hid hs1
      clear hSd hz1 hp1 hs1
      go_wp2_with fail
      go_roundw
      case rel =>
        have hq := HQ.out
        have hz := HZ.out
        refine ⟨a + 20, q + 1, d1, by first | rfl | go_num, by first | rfl | go_num | (congr 1; omega), by omega, hlt, by have := HZ1.out; omega, permIn_trans _ _ _ _ _ HP.out (permIn_mono _ _ a (a + 20) 0 d.size (by omega) hlt (by omega) HP1.out), ?_, S2.out⟩
        have h1 := HP1.out
        have h2 := HS1.out
        rw [hq] at h1 h2
        exact bel_step HB.out h1 h2
      case measure => simp [intOf]; omega
    · have hltz : ¬ (a : Int) + 20 ≤ (d.size : Int) := by omega
      have HCALL := Lib.hid (HINS.out a d.size dk wr HZ.out S1.out han (Nat.le_refl _))
      go_wp2_with fail
      refine HCALL.out.mono ?_
      rintro e1 w1 ⟨rfl, d1, hSd, hz1, hp1, hs1⟩
      have hq := HQ.out
      have hz := HZ.out
      have hbk : Blk (ltOf cf) 20 d.size 0 d1 := by
        rw [hq] at hp1 hs1
        exact bel_end HB.out (by omega) (by omega) hp1 hs1
      have hpp : PermIn 0 d.size d d1 := permIn_trans _ _ _ _ _ HP.out (permIn_mono _ _ a d.size 0 d.size (by omega) (Nat.le_refl _) (by omega) hp1)
      have hzz : d1.size = d.size := by omega
      have S2 := Lib.hid hSd
      have HBK := Lib.hid hbk
      have HPP := Lib.hid hpp
      have HZZ := Lib.hid hzz
      clear hSd hz1 hp1 hs1 hbk hpp hzz hq hz HCALL S1 HP HB HZ HQ hlt hltz
      go_wp2_with fail
      go_loopw [6] (fun sv wr => StB enc k w0 blk off (ltOf cf) d sv wr) (fun sv _ => d.size - (intOf sv).toNat)
      case atStart => exact ⟨20, d1, rfl, by omega, by omega, HZZ.out, HPP.out, HBK.out, S2.out⟩
      case round =>
        clear S2 HBK HPP HZZ
        obtain ⟨s, dk, rfl, hs0, hsb, hz, hp, hbl, hSk⟩ := hrel
        have S1 := Lib.hid hSk
        have HP := Lib.hid hp
        have HB := Lib.hid hbl
        have HZ := Lib.hid hz
        clear hSk hp hbl hz
        by_cases hlt : s < d.size
        · have hltz : (s : Int) < (d.size : Int) := by omega
          go_wp2_with fail
          go_loopw [7, 8] (fun iv jv wr => StC enc k w0 blk off (ltOf cf) s d iv jv wr) (fun iv jv _ => d.size - (intOf iv).toNat)
          case atStart => exact ⟨0, 0, dk, rfl, by first | rfl | go_num | simp, rfl, Nat.zero_le _, HZ.out, HP.out, fun t ht => absurd ht (Nat.not_lt_zero _), HB.out, S1.out⟩
          case round =>
            clear S1 HP HB HZ
            obtain ⟨a, q, dk, rfl, rfl, haq, han, hz, hp, hbl, hbk, hSk⟩ := hrel
            have S1 := Lib.hid hSk
            have HP := Lib.hid hp
            have HB := Lib.hid hbl
            have HK := Lib.hid hbk
            have HZ := Lib.hid hz
            have HQ := Lib.hid haq
            obtain ⟨g1, g2⟩ := blk_parts hbk
            rw [← haq] at g1 g2
            have G1 := Lib.hid g1
            have G2 := Lib.hid g2
            clear hSk hp hbl hz haq hbk g1 g2
            by_cases hl2 : a + 2 * s ≤ d.size
            · have hl2z : (a : Int) + 2 * (s : Int) ≤ (d.size : Int) := by omega
              have HCALL := Lib.hid (HMRG.out a (a + s) (a + 2 * s) dk wr HZ.out S1.out (by omega) (by omega) hl2 (by have := G1.out; rwa [Nat.min_eq_left (by omega)] at this) (by have := G2.out; rwa [Nat.min_eq_left (by omega)] at this))
              rw [show ((a + s : Nat) : Int) = (a : Int) + (s : Int) by omega, show ((a + 2 * s : Nat) : Int) = (a : Int) + 2 * (s : Int) by omega] at HCALL
              go_wp2_with fail
              refine HCALL.out.mono ?_
              rintro e1 w1 ⟨rfl, d1, hSd, hz1, hp1, hs1⟩
              have S2 := Lib.hid hSd
              have HZ1 := Lib.hid hz1
              have HP1 := Lib.hid hp1
              have HS1 := Lib.hid hs1
              clear hSd hz1 hp1 hs1
              go_wp2_with fail
              go_roundw
              case rel =>
                have hq := HQ.out
                have hz := HZ.out
                have h1 := HP1.out
                have h2 := HS1.out
                rw [hq] at h1 h2
                exact ⟨a + 2 * s, q + 1, d1, by first | rfl | go_num, by first | rfl | go_num | (congr 1; omega), by rw [Nat.mul_add, ← hq, Nat.mul_one], hl2, by have := HZ1.out; omega, permIn_trans _ _ _ _ _ HP.out (permIn_mono _ _ a (a + 2 * s) 0 d.size (by omega) hl2 (by omega) HP1.out), bel_step HB.out h1 h2, blk_step HK.out h1, S2.out⟩
              case measure => simp [intOf]; omega
            · have hl2z : ¬ (a : Int) + 2 * (s : Int) ≤ (d.size : Int) := by omega
              by_cases hl3 : a + s < d.size
              · have hl3z : (a : Int) + (s : Int) < (d.size : Int) := by omega
                have HCALL := Lib.hid (HMRG.out a (a + s) d.size dk wr HZ.out S1.out (by omega) hl3 (Nat.le_refl _) (by have := G1.out; rwa [Nat.min_eq_left (by omega)] at this) (by have := G2.out; rwa [Nat.min_eq_right (by omega)] at this))
                rw [show ((a + s : Nat) : Int) = (a : Int) + (s : Int) by omega] at HCALL
                go_wp2_with fail
                refine HCALL.out.mono ?_
                rintro e1 w1 ⟨rfl, d1, hSd, hz1, hp1, hs1⟩
                have S2 := Lib.hid hSd
                have HZ1 := Lib.hid hz1
                have HP1 := Lib.hid hp1
                have HS1 := Lib.hid hs1
                clear hSd hz1 hp1 hs1
                go_wp2_with fail
                go_roundw
                case rel =>
                  have hq := HQ.out
                  have hz := HZ.out
                  have h1 := HP1.out
                  have h2 := HS1.out
                  rw [hq] at h1 h2
                  exact ⟨2 * s, d1, by first | rfl | go_num | (congr 1; omega), by omega, by omega, by have := HZ1.out; omega, permIn_trans _ _ _ _ _ HP.out (permIn_mono _ _ a d.size 0 d.size (by omega) (Nat.le_refl _) (by omega) HP1.out), bel_end HB.out (by omega) (by omega) h1 h2, S2.out⟩
                case measure => simp [intOf]; omega
              · have hl3z : ¬ (a : Int) + (s : Int) < (d.size : Int) := by omega
                go_wp2_with fail
                go_roundw
                case rel =>
                  have hq := HQ.out
                  have hz := HZ.out
                  have h2 := G1.out
                  rw [Nat.min_eq_right (by omega), hq] at h2
                  exact ⟨2 * s, dk, by first | rfl | go_num | (congr 1; omega), by omega, by omega, hz, HP.out, bel_end HB.out (by omega) (by omega) (permIn_refl _ _ _) h2, S1.out⟩
                case measure => simp [intOf]; omega
        · have hltz : ¬ (s : Int) < (d.size : Int) := by omega
          go_wp2_with fail
          go_end0
          have h := HB.out 0 (Nat.le_refl _)
          rw [Nat.mul_zero, Nat.zero_add, Nat.min_eq_right (by omega)] at h
          exact ⟨rfl, dk, S1.out, HZ.out, HP.out, h⟩
end
end Go.Proofs.YtnnfhcbopchodaaDoor
namespace Go.Proofs.YtnnfhcbopchodaaDoor
open Go.RowKit
set_option linter.unusedVariables false
set_option linter.unusedSimpArgs false
set_option maxRecDepth 100000
def cmpN (x y : Lb) : Int := cmpS x.1 y.1
theorem set1_any (x y : Lb) (w : World) : Calls Tryd.prog 55 #[.agg (lenc x).toArray, .agg (lenc y).toArray] w fun e w' => e = .returned (.int .i64 (cmpN x y)) ∧ Grew w w' := by
  obtain ⟨a, b⟩ := x
  obtain ⟨c, d⟩ := y
  show Calls Tryd.prog 55 #[.agg #[.string a, .string b], .agg #[.string c, .string d]] w _
  go_enter Tryd.func55, Tryd.ntmps55
  go_wp2_with fail
  refine (Tryd.strings_Compare _ _ _).mono ?_
  rintro e w1 ⟨rfl, rfl⟩
  go_wp2_with fail
  go_ret
  exact ⟨rfl, ((Grew.refl _).alloc _).alloc _⟩
theorem swo_of {α : Type} {cf : α → α → Int} (neg : ∀ x y, cf y x = - cf x y) (tr : ∀ x y z, cf x y ≤ 0 → cf y z ≤ 0 → cf x z ≤ 0 ∧ (cf x y < 0 ∨ cf y z < 0 → cf x z < 0)) : Sort.SWO (ltOf cf) where
  irrefl x := by have := neg x x; exact decide_eq_false (by omega)
  trans x y z h1 h2 := by
    have h1 : cf x y < 0 := of_decide_eq_true h1
    have h2 : cf y z < 0 := of_decide_eq_true h2
    exact decide_eq_true ((tr x y z (by omega) (by omega)).2 (.inl h1))
  ntrans x y z h1 h2 := by
    have h1 : ¬ cf x y < 0 := of_decide_eq_false h1
    have h2 : ¬ cf y z < 0 := of_decide_eq_false h2
    have n1 := neg x y
    have n2 := neg y z
    have n3 := neg x z
    have := (tr z y x (by omega) (by omega)).1
    exact decide_eq_false (by omega)
theorem cmpN_swo : Sort.SWO (ltOf cmpN) := swo_of (fun x y => cmpS_neg x.1 y.1) (fun x y z h1 h2 => cmpS_trans h1 h2)
theorem cmpLays_of {g : Nat} {α : Type} [Inhabited α] {enc : α → List Value} {k : Nat} {cf : α → α → Int} {blk off size : Nat} {w0 : World} (h : ∀ x y w, Calls Tryd.prog g #[.agg (enc x).toArray, .agg (enc y).toArray] w fun e w' => e = .returned (.int .i64 (cf x y)) ∧ Grew w w') : CmpLays Tryd.prog g #[] enc k cf blk off size w0 := by
  intro m os dk hs x y
  refine (h x y _).mono ?_
  rintro e w' ⟨rfl, q, os', rfl⟩
  exact ⟨rfl, q, os', rfl⟩
set_option maxHeartbeats 2000000 in
theorem sortstable_any (v : Value) (n : Nat) (l : List Lb) (base : Nat) (w : World) (h : w.ownsRow base 88 2 v n (l.flatMap lenc)) (hne : l ≠ []) (hl : l.length ≤ 1000000) :
    Calls Tryd.prog 54 #[v, .func (.func 55) #[] #[]] w fun e w' => e = .returned (.tuple #[]) ∧ ∃ l' : List Lb, l'.Perm l ∧ l'.Pairwise (fun x y => cmpN x y ≤ 0) ∧ Sl lenc w' v l' ∧ (∀ W, Below base W w → Below base W w') := by
  have hn : n = l.length := by
    have := h.1
    rw [flat_length lenc_len] at this
    omega
  subst hn
  rcases h.2 with ⟨rfl, h0⟩ | ⟨g, cap, cur, rfl, hbg, hg, hle, hcap, -, -⟩
  · exact absurd (List.eq_nil_of_length_eq_zero h0) hne
  · have hgl : g < w.heap.size := (Array.getElem?_eq_some_iff.1 hg).1
    have hH := holdsK_own lenc_len (by decide) h
    have R : RowK lenc 2 w g 0 l.toArray := ⟨lenc_len, fun x v hv => by simp [lenc] at hv; rcases hv with rfl | rfl <;> rfl, hH, hgl⟩
    have HF := stable_Lb 2 (fun w => by rfl) 55 #[] (fun args w => by rfl) cmpN g 0 cap l.toArray l.toArray w w R rfl (SWK.start hH) (cmpLays_of fun x y w => set1_any x y w) cmpN_swo (by simp; omega)
    rw [List.size_toArray] at HF
    have HFF := Lib.hid HF
    have HR := Lib.hid R
    have HHH := Lib.hid hH
    unfold maxLen at hcap
    clear HF R hH h hg
    go_enter Tryd.func54, Tryd.ntmps54
    go_wp2_with fail
    refine HFF.out.mono ?_
    rintro e w1 ⟨rfl, d', hS, hz, hp, hs⟩
    have HS := Lib.hid hS
    have HZ := Lib.hid hz
    have HP := Lib.hid hp
    have HO := Lib.hid hs
    clear hS hz hp hs
    go_wp2_with fail
    go_end0
    have hz : d'.size = l.length := by have := HZ.out; simpa using this
    refine ⟨rfl, d'.toList, ?_, ?_, ?_, ?_⟩
    · have := HP.out.2.2
      simp only [List.extract_toArray, List.extract_eq_take_drop, List.drop_zero] at this
      have e1 : (d'.extract 0 l.length).toList = d'.toList := by rw [← hz, Array.extract_size]
      rw [e1] at this
      simpa using this
    · rw [List.pairwise_iff_getElem]
      intro i j hi hj hij
      have := HO.out i j (Nat.zero_le _) hij (by simpa [hz] using hj)
      have hi2 : i < d'.size := by simpa using hi
      have hj2 : j < d'.size := by simpa using hj
      rw [getElem!_pos d' i hi2, getElem!_pos d' j hj2] at this
      have h2 : ¬ cmpN d'[j] d'[i] < 0 := of_decide_eq_false this
      have h3 := cmpS_neg d'[j].1 d'[i].1
      show cmpS _ _ ≤ 0
      have h4 : ¬ cmpS d'[j].1 d'[i].1 < 0 := h2
      simp only [Array.getElem_toList]
      omega
    · have := SWK.slice (cap := cap) HS.out lenc_len (by decide) HHH.out hgl (by rw [hz]; simp) ⟨by omega, by omega⟩
      rw [hz] at this
      exact this
    · intro W hW
      exact hW.grown (SWK.grownBy HS.out) (by omega) (fun j hj => by injection hj with hj; omega)
end Go.Proofs.YtnnfhcbopchodaaDoor
namespace Go.Proofs.YtnnfhcbopchodaaDoor
open Go.RowKit
set_option linter.unusedVariables false
set_option linter.unusedSimpArgs false
set_option maxRecDepth 100000
theorem name_qs (s : ByteArray) (w : World) : Calls Tryd.prog 57 #[.string s] w fun e w' => e = .returned (.bool (nameB s)) ∧ w = w' := (name_any s w).mono fun _ _ h => ⟨h.1, h.2.symm⟩
def okFrom : Option ByteArray → List Lb → Bool
  | _, [] => true
  | p, x :: r => nameB x.1 && decide (x.2.size ≤ 256) && !(decide (p = some x.1)) && okFrom (some x.1) r
def keepL (l : List Lb) : List Lb := l.filter fun x => decide (0 < x.2.size)
def setOk (l : List Lb) : Bool := okFrom none l && decide ((keepL l).length ≤ 32)
def prevO (cs : List Lb) : Nat → Option ByteArray
  | 0 => none
  | k + 1 => some (lx cs k).1
theorem keep_snoc (l : List Lb) (k : Nat) (h : k < l.length) : keepL (l.take (k + 1)) = keepL (l.take k) ++ if 0 < (lx l k).2.size then [lx l k] else [] := by
  unfold keepL
  rw [lx_at h, List.take_succ_eq_append_getElem h, List.filter_append]
  congr 1
  by_cases h : 0 < l[k].2.size <;> simp [h]
theorem keep_take_len (l : List Lb) (k : Nat) : (keepL (l.take k)).length ≤ l.length := Nat.le_trans (List.length_filter_le _ _) (by simp; omega)
set_option maxHeartbeats 4000000 in
theorem set_any (v : Value) (l : List Lb) (w : World) (h : Sl lenc w v l) (hl : l.length ≤ 100000) :
    Calls Tryd.prog 34 #[v] w fun e w' => ∃ l' : List Lb, l'.Perm l ∧ l'.Pairwise (fun x y => cmpN x y ≤ 0) ∧ Below w.heap.size w w' ∧
      ((setOk l' = true ∧ ∃ v', e = .returned (.tuple #[v', .int .i64 0]) ∧ Sl lenc w' v' (keepL l')) ∨ (setOk l' = false ∧ e = .returned (.tuple #[.slice none 0 0, .int .i64 1]))) := by
  have hcl := clone_any v l w h (by omega)
  obtain ⟨a, cap, rfl, hlen, hnone, -⟩ := h.split lenc_len
  have HCL := Lib.hid hcl
  clear hcl h
  obtain ⟨i0, hi, hz0, hz1, hz2⟩ := info_parts Tryd.infoLb
  by_cases hne : l = []
  · subst hne
    clear HCL
    go_enter Tryd.func34, Tryd.ntmps34
    go_wp2_with fail
    go_ret2
    exact ⟨Below.refl _ _, .inl ⟨rfl, _, rfl, Sl.nil _⟩⟩
  · have hl0 : l.length ≠ 0 := fun e => hne (List.eq_nil_of_length_eq_zero e)
    have hl1 : ¬ (l.length : Int) = 0 := by omega
    have hl2 : ((l.length : Int) == 0) = false := by simpa using hne
    go_enter Tryd.func34, Tryd.ntmps34
    go_wp2_with fail
    refine HCL.out.mono ?_
    rintro e w1 ⟨v1, rfl, hown, hb1⟩
    have HS := Lib.hid (sortstable_any v1 l.length l w.heap.size w1 hown hne (by omega))
    have HB1 := Lib.hid hb1
    clear hown hb1 HCL
    go_wp2_with fail
    refine HS.out.mono ?_
    rintro e w2 ⟨rfl, l', hp, hso, hsl, hbw⟩
    have hb2 := hbw w HB1.out
    have HP := Lib.hid hp
    have HSO := Lib.hid hso
    have hlen' : l'.length = l.length := hp.length_eq
    obtain ⟨a1, cap1, rfl, hlen1, -, hc1⟩ := hsl.split lenc_len
    have HC := Lib.hid hc1
    have HB2 := Lib.hid hb2
    clear HS HB1 hp hso hsl hbw hb2 hc1
    go_wp2_with fail
    go_loopw [5, 17] (fun v i wr => ∃ (k : Nat), k ≤ l'.length ∧ i = .int .i64 k ∧ wr.ownsRow w2.heap.size 88 2 v (keepL (l'.take k)).length ((keepL (l'.take k)).flatMap lenc) ∧ Below w2.heap.size w2 wr ∧ Hid (okFrom (prevO l' k) (l'.drop k) = okFrom none l')) (fun _ i _ => l'.length - (intOf i).toNat)
    case atStart => exact ⟨0, Nat.zero_le _, rfl, by simpa [keepL] using World.ownsRow_nil _ _ _ _, Below.refl _ _, rfl⟩
    case round =>
      obtain ⟨k, hk, rfl, hown, hb, HV⟩ := hrel
      have hB := hb.size
      have hB0 := HB2.out.size
      have HO := Lib.hid hown
      have HB := Lib.hid hb
      by_cases hlt : k < l'.length
      · have hltz : (k : Int) < (l'.length : Int) := by omega
        have h00 : (0 : Int) ≤ (k : Int) := by omega
        obtain ⟨b, off, rfl, k0, k1⟩ := lab_cells HC.out hb (Nat.le_refl _) hlt
        have HD := Lib.hid (show l'.drop k = lx l' k :: l'.drop (k + 1) by rw [List.drop_eq_getElem_cons hlt]; simp [lx, hlt])
        have HS := Lib.hid (keep_snoc l' k hlt)
        have hct := keep_take_len l' k
        by_cases hn : nameB (lx l' k).1 = true
        · by_cases hbz : 256 < (lx l' k).2.size
          · have hb1 : (256 : Int) < ((lx l' k).2.size : Int) := by omega
            have hb2 : decide ((256 : Int) < ((lx l' k).2.size : Int)) = true := by simpa using hb1
            have HF := Lib.hid (show setOk l' = false by rw [setOk, ← HV.out, HD.out, okFrom, hn, show decide ((lx l' k).2.size ≤ 256) = false from decide_eq_false (by omega)]; rfl)
            clear hown
            go_wp2_with fail
            go_quiet ((go_at_call 57; first | refine qs (name_qs _ _) | refine quiet_same (name_qs _ _)))
            go_wp2_with fail
            go_ret2
            exact ⟨l', HP.out, HSO.out, below_drewN ((HB2.out.trans (HB.out.mono hB0)).alloc (by omega) _) _, .inr ⟨HF.out, rfl⟩⟩
          · have hb1 : ¬ (256 : Int) < ((lx l' k).2.size : Int) := by omega
            have hb2 : decide ((256 : Int) < ((lx l' k).2.size : Int)) = false := by simp only [decide_eq_false_iff_not]; exact hb1
            have HVN0 : decide (prevO l' k = some (lx l' k).1) = false → Hid (okFrom (prevO l' (k + 1)) (l'.drop (k + 1)) = okFrom none l') := fun hne => by
              show _ = _
              rw [← HV.out, HD.out, okFrom, hn, hne, show decide ((lx l' k).2.size ≤ 256) = true from decide_eq_true (by omega)]; rfl
            have HVV := Lib.hid HVN0
            clear HVN0 hown
            by_cases hk0' : k = 0
            · have hz3 : ¬ (0 : Int) < (k : Int) := by omega
              have hz4 : decide ((0 : Int) < (k : Int)) = false := by simp only [decide_eq_false_iff_not]; exact hz3
              have hz5 : decide (0 < k) = false := by simp; omega
              have HVN := HVV.out (by rw [hk0']; rfl)
              clear hk0'
              go_wp2_with fail
              go_quiet ((go_at_call 57; first | refine qs (name_qs _ _) | refine quiet_same (name_qs _ _)))
              have hq1 : ((wr.alloc (.cells #[.string (lx l' k).1, .string (lx l' k).2] 88)).drewN nq).ownsRow w2.heap.size 88 2 u5 (keepL (l'.take k)).length ((keepL (l'.take k)).flatMap lenc) := World.ownsRow.alloc HO.out _
              have hq2 : Below w2.heap.size w2 ((wr.alloc (.cells #[.string (lx l' k).1, .string (lx l' k).2] 88)).drewN nq) := below_drewN (HB.out.alloc hB _) _
              have hq3 : ((wr.alloc (.cells #[.string (lx l' k).1, .string (lx l' k).2] 88)).drewN nq).cell? ⟨wr.heap.size, 0, none⟩ = some (.string (lx l' k).1) := by simp
              have hq4 : ((wr.alloc (.cells #[.string (lx l' k).1, .string (lx l' k).2] 88)).drewN nq).cell? ⟨wr.heap.size, 1, none⟩ = some (.string (lx l' k).2) := by simp
              generalize (wr.alloc (.cells #[.string (lx l' k).1, .string (lx l' k).2] 88)).drewN nq = wq at hq1 hq2 hq3 hq4 ⊢
              have hqB := hq2.size
              have HQ1 := Lib.hid hq1
              have HQ2 := Lib.hid hq2
              clear hq2
              by_cases hzz : 0 < (lx l' k).2.size
              · have hz1' : ¬ (lx l' k).2.toList = [] := not_empty_of hzz
                have hz2' : (lx l' k).2.toList.isEmpty = false := by simpa using hz1'
                have HSS := Lib.hid (show keepL (l'.take (k + 1)) = keepL (l'.take k) ++ [lx l' k] by rw [HS.out, if_pos hzz])
                go_wp2_with (at_builtin; refine wpList_append_own _ rfl _ _ 39 rfl w2.heap.size 88 i0 (.agg #[.string ⟨#[]⟩, .string ⟨#[]⟩]) 2 32 Tryd.underlying39 hi hz0 hz1 hz2 rfl (by decide) _ _ _ rfl (hq1.alloc _) ⟨wq.heap.size, 0, none⟩ 1 1 [.string (lx l' k).1, .string (lx l' k).2] rfl rfl ?c1 ?c2 ?c3 ?c4 ?c5 ?_)
                case c1 => have := two_new wq (.string (lx l' k).1) (.string (lx l' k).2) 88; simpa using this
                case c2 => intro u hu; simp at hu; rcases hu with rfl | rfl <;> rfl
                case c3 => unfold maxLen; omega
                case c4 => omega
                case c5 => simp; omega
                intro v' w3 hown' hgrow _
                have HG := Lib.hid hgrow
                have HO' := Lib.hid hown'
                clear hq1 hgrow hown'
                go_wp2_with fail
                go_roundw
                case rel =>
                  refine ⟨k + 1, by omega, by go_num, ?_, (HQ2.out.alloc hqB _).grown HG.out (by simp; omega) (fun j hj => (HQ1.out.lt j hj).1), HVN⟩
                  rw [HSS.out]
                  simp only [List.length_append, List.flatMap_append]
                  exact HO'.out
                case measure => simp [intOf]; omega
              · have hz1' : (lx l' k).2.toList = [] := empty_of (by omega)
                have hz2' : (lx l' k).2.toList.isEmpty = true := by simpa using hz1'
                have HSS := Lib.hid (show keepL (l'.take (k + 1)) = keepL (l'.take k) by rw [HS.out, if_neg hzz, List.append_nil])
                clear hq1
                go_wp2_with fail
                go_roundw
                case rel => exact ⟨k + 1, by omega, by go_num, by rw [HSS.out]; exact HQ1.out, HQ2.out, HVN⟩
                case measure => simp [intOf]; omega
            · obtain ⟨m, rfl⟩ : ∃ m, k = m + 1 := ⟨k - 1, by omega⟩
              have hlt' : m < l'.length := by omega
              obtain ⟨b3, off3, e2, hp0, hp1⟩ := lab_cells HC.out HB.out (Nat.le_refl _) hlt'
              injection e2 with e2
              injection e2 with e2 e3
              subst e2 e3
              have hbl : b < wr.heap.size := World.block_lt_of_cell? wr _ hp0
              have hbn : b ≠ wr.heap.size := by omega
              have hp0a : (wr.alloc (.cells #[.string (lx l' (m + 1)).1, .string (lx l' (m + 1)).2] 88)).cell? ⟨b, off + m * 2, none⟩ = some (.string (lx l' m).1) := cell_below ((Below.refl wr.heap.size wr).alloc (Nat.le_refl _) _) (Nat.le_refl _) hp0
              have hz3 : (0 : Int) < ((m : Int) + 1) := by omega
              have hz4 : decide ((0 : Int) < ((m : Int) + 1)) = true := decide_eq_true hz3
              have hm1 : (m : Int) < (l'.length : Int) := by omega
              have hm0 : (0 : Int) ≤ (m : Int) := by omega
              have hm2 : ((m : Int) + 1).toNat = m + 1 := by omega
              have hm3 : (0 : Int) ≤ (m : Int) + 1 := by omega
              have hm4 : (m : Int) + 1 < (l'.length : Int) := by omega
              have hm5 : IntKind.i64.wrap (m : Int) = (m : Int) := by rw [IntKind.wrap_i64]; omega
              by_cases he : (lx l' m).1 = (lx l' (m + 1)).1
              · have he1 : ((lx l' m).1.toList == (lx l' (m + 1)).1.toList) = true := by rw [he]; simp
                have HF := Lib.hid (show setOk l' = false by
                  have hbq : decide (prevO l' (m + 1) = some (lx l' (m + 1)).1) = true := decide_eq_true (by show some (lx l' m).1 = some (lx l' (m + 1)).1; rw [he])
                  rw [setOk, ← HV.out, HD.out, okFrom, hbq]
                  simp only [Bool.not_true, Bool.and_false, Bool.false_and])
                clear he
                go_wp2_with fail
                go_quiet ((go_at_call 57; first | refine qs (name_qs _ _) | refine quiet_same (name_qs _ _)))
                go_wp2_with fail
                go_ret2
                exact ⟨l', HP.out, HSO.out, below_drewN ((HB2.out.trans (HB.out.mono hB0)).alloc (by omega) _) _, .inr ⟨HF.out, rfl⟩⟩
              · have he1 : ((lx l' m).1.toList == (lx l' (m + 1)).1.toList) = false := by
                  rw [beq_cmp]
                  exact decide_eq_false fun h => he ((cmpS_eq _ _).1 h)
                have HVN := HVV.out (decide_eq_false fun hh => he (by have hh2 : some (lx l' m).1 = some (lx l' (m + 1)).1 := hh; injection hh2))
                clear he
                go_wp2_with fail
                go_quiet ((go_at_call 57; first | refine qs (name_qs _ _) | refine quiet_same (name_qs _ _)))
                have hq1 : ((wr.alloc (.cells #[.string (lx l' (m + 1)).1, .string (lx l' (m + 1)).2] 88)).drewN nq).ownsRow w2.heap.size 88 2 u5 (keepL (l'.take (m + 1))).length ((keepL (l'.take (m + 1))).flatMap lenc) := World.ownsRow.alloc HO.out _
                have hq2 : Below w2.heap.size w2 ((wr.alloc (.cells #[.string (lx l' (m + 1)).1, .string (lx l' (m + 1)).2] 88)).drewN nq) := below_drewN (HB.out.alloc hB _) _
                have hq3 : ((wr.alloc (.cells #[.string (lx l' (m + 1)).1, .string (lx l' (m + 1)).2] 88)).drewN nq).cell? ⟨wr.heap.size, 0, none⟩ = some (.string (lx l' (m + 1)).1) := by simp
                have hq4 : ((wr.alloc (.cells #[.string (lx l' (m + 1)).1, .string (lx l' (m + 1)).2] 88)).drewN nq).cell? ⟨wr.heap.size, 1, none⟩ = some (.string (lx l' (m + 1)).2) := by simp
                generalize (wr.alloc (.cells #[.string (lx l' (m + 1)).1, .string (lx l' (m + 1)).2] 88)).drewN nq = wq at hq1 hq2 hq3 hq4 ⊢
                have hqB := hq2.size
                have HQ1 := Lib.hid hq1
                have HQ2 := Lib.hid hq2
                clear hq2
                by_cases hzz : 0 < (lx l' (m + 1)).2.size
                · have hz1' : ¬ (lx l' (m + 1)).2.toList = [] := not_empty_of hzz
                  have hz2' : (lx l' (m + 1)).2.toList.isEmpty = false := by simpa using hz1'
                  have HSS := Lib.hid (show keepL (l'.take (m + 1 + 1)) = keepL (l'.take (m + 1)) ++ [lx l' (m + 1)] by rw [HS.out, if_pos hzz])
                  go_wp2_with (at_builtin; refine wpList_append_own _ rfl _ _ 39 rfl w2.heap.size 88 i0 (.agg #[.string ⟨#[]⟩, .string ⟨#[]⟩]) 2 32 Tryd.underlying39 hi hz0 hz1 hz2 rfl (by decide) _ _ _ rfl (hq1.alloc _) ⟨wq.heap.size, 0, none⟩ 1 1 [.string (lx l' (m + 1)).1, .string (lx l' (m + 1)).2] rfl rfl ?c1 ?c2 ?c3 ?c4 ?c5 ?_)
                  case c1 => have := two_new wq (.string (lx l' (m + 1)).1) (.string (lx l' (m + 1)).2) 88; simpa using this
                  case c2 => intro u hu; simp at hu; rcases hu with rfl | rfl <;> rfl
                  case c3 => unfold maxLen; omega
                  case c4 => omega
                  case c5 => simp; omega
                  intro v' w3 hown' hgrow _
                  have HG := Lib.hid hgrow
                  have HO' := Lib.hid hown'
                  clear hq1 hgrow hown'
                  go_wp2_with fail
                  go_roundw
                  case rel =>
                    refine ⟨m + 1 + 1, by omega, by go_num, ?_, (HQ2.out.alloc hqB _).grown HG.out (by simp; omega) (fun j hj => (HQ1.out.lt j hj).1), HVN⟩
                    rw [HSS.out]
                    simp only [List.length_append, List.flatMap_append]
                    exact HO'.out
                  case measure => simp [intOf]; omega
                · have hz1' : (lx l' (m + 1)).2.toList = [] := empty_of (by omega)
                  have hz2' : (lx l' (m + 1)).2.toList.isEmpty = true := by simpa using hz1'
                  have HSS := Lib.hid (show keepL (l'.take (m + 1 + 1)) = keepL (l'.take (m + 1)) by rw [HS.out, if_neg hzz, List.append_nil])
                  clear hq1
                  go_wp2_with fail
                  go_roundw
                  case rel => exact ⟨m + 1 + 1, by omega, by go_num, by rw [HSS.out]; exact HQ1.out, HQ2.out, HVN⟩
                  case measure => simp [intOf]; omega
        · have hn2 : nameB (lx l' k).1 = false := by simpa using hn
          have HF := Lib.hid (show setOk l' = false by rw [setOk, ← HV.out, HD.out, okFrom, hn2]; rfl)
          clear hown
          go_wp2_with fail
          go_quiet ((go_at_call 57; first | refine qs (name_qs _ _) | refine quiet_same (name_qs _ _)))
          go_wp2_with fail
          go_ret2
          exact ⟨l', HP.out, HSO.out, below_drewN ((HB2.out.trans (HB.out.mono hB0)).alloc (by omega) _) _, .inr ⟨HF.out, rfl⟩⟩
      · have hltz : ¬ (k : Int) < (l'.length : Int) := by omega
        obtain rfl : k = l'.length := by omega
        have hok : okFrom none l' = true := by rw [← HV.out, List.drop_length]; cases l' <;> rfl
        rw [List.take_of_length_le (Nat.le_refl _)] at hown
        have hsl5 : Sl lenc wr u5 (keepL l') := Sl.own lenc_len (by decide) hown
        have HSL := Lib.hid hsl5
        obtain ⟨a5, cap5, e5, -, -, -⟩ := hsl5.split lenc_len
        subst e5
        clear hsl5
        have HBB := Lib.hid (HB2.out.trans (HB.out.mono hB0))
        by_cases hbig : 32 < (keepL l').length
        · have hbz : (32 : Int) < ((keepL l').length : Int) := by omega
          have HF := Lib.hid (show setOk l' = false by rw [setOk, hok, show decide ((keepL l').length ≤ 32) = false from decide_eq_false (by omega)]; rfl)
          clear hown
          go_wp2_with fail
          go_ret2
          exact ⟨l', HP.out, HSO.out, HBB.out, .inr ⟨HF.out, rfl⟩⟩
        · have hbz : ¬ (32 : Int) < ((keepL l').length : Int) := by omega
          have HF := Lib.hid (show setOk l' = true by rw [setOk, hok, show decide ((keepL l').length ≤ 32) = true from decide_eq_true (by omega)]; rfl)
          clear hown
          go_wp2_with fail
          go_ret2
          exact ⟨l', HP.out, HSO.out, HBB.out, .inl ⟨HF.out, _, rfl, HSL.out⟩⟩
end Go.Proofs.YtnnfhcbopchodaaDoor
namespace Go.Proofs.YtnnfhcbopchodaaDoor
open Go.RowKit
set_option linter.unusedVariables false
set_option linter.unusedSimpArgs false
def okX (x : Lb) : Prop := nameB x.1 = true ∧ x.2.size ≤ 256
def OkP (l : List Lb) : Prop := (∀ x ∈ l, okX x) ∧ l.Pairwise fun x y => x.1 ≠ y.1
def StrictL (l : List Lb) : Prop := l.Pairwise fun x y => cmpN x y < 0
theorem okP_perm {l l' : List Lb} (h : l'.Perm l) : OkP l' ↔ OkP l := by
  unfold OkP
  rw [h.pairwise_iff (fun hxy e => hxy e.symm)]
  constructor
  · rintro ⟨h1, h2⟩; exact ⟨fun x hx => h1 x (h.mem_iff.2 hx), h2⟩
  · rintro ⟨h1, h2⟩; exact ⟨fun x hx => h1 x (h.mem_iff.1 hx), h2⟩
theorem cmpN_ne {x y : Lb} (h : x.1 ≠ y.1) : cmpN x y ≠ 0 := fun e => h ((cmpS_eq _ _).1 e)
theorem cmpN_self (x : Lb) : cmpN x x = 0 := (cmpS_eq _ _).2 rfl
theorem okFrom_iff (l : List Lb) : ∀ (p : Option ByteArray), l.Pairwise (fun x y => cmpN x y ≤ 0) → (okFrom p l = true ↔ (∀ x ∈ l, okX x) ∧ (∀ x r, l = x :: r → p ≠ some x.1) ∧ l.Pairwise fun x y => x.1 ≠ y.1) := by
  induction l with
  | nil => intro p _; simp [okFrom]
  | cons x r ih =>
    intro p hs
    rw [List.pairwise_cons] at hs
    obtain ⟨hs1, hs2⟩ := hs
    rw [okFrom]
    simp only [Bool.and_eq_true, Bool.not_eq_true', decide_eq_true_eq, decide_eq_false_iff_not]
    rw [ih (some x.1) hs2, List.pairwise_cons]
    constructor
    · rintro ⟨⟨⟨h1, h2⟩, h3⟩, h4, h5, h6⟩
      refine ⟨?_, ?_, ?_, h6⟩
      · intro y hy
        rcases List.mem_cons.1 hy with rfl | hy
        · exact ⟨h1, h2⟩
        · exact h4 y hy
      · intro y t e; injection e with e1 e2; subst e1; exact h3
      · intro y hy e
        cases r with
        | nil => cases hy
        | cons z t =>
          have hne : x.1 ≠ z.1 := fun h => h5 z t rfl (by rw [h])
          have hxz : cmpN x z < 0 := by
            have h1 := hs1 z (by simp)
            have h2 := cmpN_ne hne
            omega
          rcases List.mem_cons.1 hy with rfl | hy
          · exact hne e
          · have hzy := (List.pairwise_cons.1 hs2).1 y hy
            unfold cmpN at hxz hzy
            have h3 := (cmpS_trans (a := x.1) (b := z.1) (c := y.1) (by omega) hzy).2 (.inl hxz)
            rw [e] at h3
            have := (cmpS_eq y.1 y.1).2 rfl
            omega
    · rintro ⟨h1, h2, h3, h4⟩
      exact ⟨⟨⟨(h1 x (by simp)).1, (h1 x (by simp)).2⟩, h2 x r rfl⟩, fun y hy => h1 y (by simp [hy]), fun y t e => by subst e; exact fun he => h3 y (by simp) (by injection he), h4⟩
theorem strict_of {l : List Lb} (h1 : l.Pairwise (fun x y => cmpN x y ≤ 0)) (h2 : l.Pairwise fun x y => x.1 ≠ y.1) : StrictL l := by
  unfold StrictL
  refine (h1.and h2).imp ?_
  rintro x y ⟨h3, h4⟩
  have := cmpN_ne h4
  omega
theorem strict_ne {l : List Lb} (h : StrictL l) : l.Pairwise fun x y => x.1 ≠ y.1 := by
  refine List.Pairwise.imp ?_ h
  intro x y h3 e
  have := (cmpS_eq x.1 y.1).2 e
  unfold cmpN at h3
  omega
theorem strict_unique : ∀ (a b : List Lb), StrictL a → StrictL b → a.Perm b → a = b := by
  intro a
  induction a with
  | nil => intro b _ _ h; exact (List.nil_perm.1 h).symm
  | cons x r ih =>
    intro b ha hb h
    cases b with
    | nil => exact absurd h.length_eq (by simp)
    | cons y t =>
      have hxy : x = y := by
        have h1 : x ∈ y :: t := h.mem_iff.1 (by simp)
        have h2 : y ∈ x :: r := h.mem_iff.2 (by simp)
        rcases List.mem_cons.1 h1 with h1 | h1
        · exact h1
        · rcases List.mem_cons.1 h2 with h2 | h2
          · exact h2.symm
          · have k1 := (List.pairwise_cons.1 hb).1 x h1
            have k2 := (List.pairwise_cons.1 ha).1 y h2
            have := cmpS_neg x.1 y.1
            unfold cmpN at k1 k2; omega
      subst hxy
      rw [ih t (List.pairwise_cons.1 ha).2 (List.pairwise_cons.1 hb).2 ((List.perm_cons _).1 h)]
/-- A label put into a list that rises. -/
def putL (x : Lb) : List Lb → List Lb
  | [] => [x]
  | y :: r => if cmpS y.1 x.1 < 0 then y :: putL x r else x :: y :: r
def insFrom (acc : List Lb) : List Lb → List Lb
  | [] => acc
  | x :: r => insFrom (putL x acc) r
def insL (l : List Lb) : List Lb := insFrom [] l
theorem put_perm (x : Lb) (l : List Lb) : (putL x l).Perm (x :: l) := by
  induction l with
  | nil => exact List.Perm.refl _
  | cons y r ih =>
    rw [putL]
    by_cases h : cmpS y.1 x.1 < 0
    · rw [if_pos h]; exact (ih.cons y).trans (List.Perm.swap x y r)
    · rw [if_neg h]
theorem put_length (x : Lb) (l : List Lb) : (putL x l).length = l.length + 1 := by rw [(put_perm x l).length_eq]; rfl
theorem put_strict {x : Lb} {l : List Lb} (hl : StrictL l) (hx : ∀ y ∈ l, y.1 ≠ x.1) : StrictL (putL x l) := by
  induction l with
  | nil => exact List.pairwise_singleton _ _
  | cons y r ih =>
    obtain ⟨h1, h2⟩ := List.pairwise_cons.1 hl
    rw [putL]
    by_cases h : cmpS y.1 x.1 < 0
    · rw [if_pos h]
      refine List.pairwise_cons.2 ⟨fun z hz => ?_, ih h2 (fun z hz => hx z (by simp [hz]))⟩
      rcases List.mem_cons.1 ((put_perm x r).mem_iff.1 hz) with rfl | hz
      · exact h
      · exact h1 z hz
    · rw [if_neg h]
      have hxy : cmpN x y < 0 := by
        have := cmpS_neg x.1 y.1
        have h3 : cmpS y.1 x.1 ≠ 0 := fun e => hx y (by simp) ((cmpS_eq _ _).1 e)
        unfold cmpN; omega
      refine List.pairwise_cons.2 ⟨fun z hz => ?_, hl⟩
      rcases List.mem_cons.1 hz with rfl | hz
      · exact hxy
      · have := h1 z hz
        unfold cmpN at *
        exact (cmpS_trans (a := x.1) (b := y.1) (c := z.1) (by omega) (by omega)).2 (.inl hxy)
theorem put_at (x : Lb) (l : List Lb) : ∀ i, i ≤ l.length → (∀ j, j < i → cmpS (lx l j).1 x.1 < 0) → (i < l.length → ¬ cmpS (lx l i).1 x.1 < 0) → putL x l = l.take i ++ x :: l.drop i := by
  induction l with
  | nil => intro i hi _ _; simp at hi; subst hi; rfl
  | cons y r ih =>
    intro i hi h1 h2
    cases i with
    | zero =>
      rw [putL, if_neg (by simpa [lx] using h2 (by simp))]; rfl
    | succ i =>
      rw [putL, if_pos (by simpa [lx] using h1 0 (by omega)), ih i (by simpa using hi) (fun j hj => by simpa [lx] using h1 (j + 1) (by omega)) (fun h => by simpa [lx] using h2 (by simpa using h))]
      rfl
theorem insFrom_perm (l : List Lb) : ∀ acc, (insFrom acc l).Perm (acc ++ l) := by
  induction l with
  | nil => intro acc; simp [insFrom]
  | cons x r ih =>
    intro acc
    rw [insFrom]
    refine (ih _).trans ?_
    refine ((put_perm x acc).append_right r).trans ?_
    exact (List.perm_middle).symm
theorem ins_perm (l : List Lb) : (insL l).Perm l := by
  have := insFrom_perm l []
  rw [List.nil_append] at this
  exact this
theorem ins_length (l : List Lb) : (insL l).length = l.length := (ins_perm l).length_eq
theorem insFrom_snoc (l : List Lb) : ∀ acc x, insFrom acc (l ++ [x]) = putL x (insFrom acc l) := by
  induction l with
  | nil => intro acc x; rfl
  | cons y r ih => intro acc x; exact ih _ x
theorem ins_snoc (l : List Lb) (x : Lb) : insL (l ++ [x]) = putL x (insL l) := insFrom_snoc l [] x
theorem insFrom_strict (l : List Lb) : ∀ acc, StrictL acc → (acc ++ l).Pairwise (fun x y => x.1 ≠ y.1) → StrictL (insFrom acc l) := by
  induction l with
  | nil => intro acc h _; exact h
  | cons x r ih =>
    intro acc h hp
    have hp1 := List.pairwise_append.1 hp
    refine ih _ (put_strict h fun y hy => hp1.2.2 y hy x (by simp)) ?_
    refine List.Perm.pairwise (R := fun x y : Lb => x.1 ≠ y.1) (l := acc ++ x :: r) ?_ hp (fun hxy e => hxy e.symm)
    exact List.perm_middle.trans ((put_perm x acc).symm.append_right r)
theorem ins_strict {l : List Lb} (h : l.Pairwise fun x y => x.1 ≠ y.1) : StrictL (insL l) := insFrom_strict l [] List.Pairwise.nil (by simpa using h)
theorem keep_perm {l l' : List Lb} (h : l'.Perm l) : (keepL l').Perm (keepL l) := h.filter _
theorem keep_pair {R : Lb → Lb → Prop} {l : List Lb} (h : l.Pairwise R) : (keepL l).Pairwise R := h.sublist List.filter_sublist
/-- What the code's Set makes is what the document's makes. -/
theorem set_same {l l' : List Lb} (hp : l'.Perm l) (hs : l'.Pairwise fun x y => cmpN x y ≤ 0) : (setOk l' = true ↔ OkP l ∧ (keepL l).length ≤ 32) ∧ (setOk l' = true → keepL l' = insL (keepL l)) := by
  have h1 : setOk l' = true ↔ OkP l ∧ (keepL l).length ≤ 32 := by
    unfold setOk
    rw [Bool.and_eq_true, decide_eq_true_eq, (keep_perm hp).length_eq, okFrom_iff l' none hs, ← okP_perm hp]
    unfold OkP
    constructor
    · rintro ⟨⟨a, _, b⟩, c⟩; exact ⟨⟨a, b⟩, c⟩
    · rintro ⟨⟨a, b⟩, c⟩; exact ⟨⟨a, (fun _ _ _ h => nomatch h), b⟩, c⟩
  refine ⟨h1, fun h => ?_⟩
  obtain ⟨ho, _⟩ := h1.1 h
  have ho' := (okP_perm hp).2 ho
  exact strict_unique _ _ (strict_of (keep_pair hs) (keep_pair ho'.2)) (ins_strict (keep_pair ho.2)) ((keep_perm hp).trans (ins_perm _).symm)
/-- What right is. -/
theorem rightFrom_iff (l : List Lb) : ∀ last, (rightFrom last l = true ↔ (∀ x ∈ l, labOk x = true) ∧ StrictL l ∧ ∀ x r, l = x :: r → cmpS last x.1 < 0) := by
  induction l with
  | nil => intro last; simp [rightFrom, StrictL]
  | cons x r ih =>
    intro last
    rw [rightFrom]
    simp only [Bool.and_eq_true, decide_eq_true_eq]
    rw [ih x.1]
    unfold StrictL
    rw [List.pairwise_cons]
    constructor
    · rintro ⟨⟨h1, h2⟩, h3, h4, h5⟩
      refine ⟨fun y hy => ?_, ⟨fun y hy => ?_, h4⟩, fun y t e => by injection e with e1 e2; subst e1; exact h1⟩
      · rcases List.mem_cons.1 hy with rfl | hy
        · exact h2
        · exact h3 y hy
      · cases r with
        | nil => cases hy
        | cons z t =>
          have hxz := h5 z t rfl
          rcases List.mem_cons.1 hy with rfl | hy
          · exact hxz
          · have := (List.pairwise_cons.1 h4).1 y hy
            unfold cmpN at *
            exact (cmpS_trans (a := x.1) (b := z.1) (c := y.1) (by omega) (by omega)).2 (.inl hxz)
    · rintro ⟨h1, ⟨h2, h3⟩, h4⟩
      exact ⟨⟨h4 x r rfl, h1 x (by simp)⟩, fun y hy => h1 y (by simp [hy]), h3, fun y t e => by subst e; exact h2 y (by simp)⟩
theorem right_iff (l : List Lb) : rightL l = true ↔ (∀ x ∈ l, labOk x = true) ∧ StrictL l ∧ l.length ≤ 32 := by
  unfold rightL
  rw [Bool.and_eq_true, decide_eq_true_eq, rightFrom_iff]
  constructor
  · rintro ⟨⟨h1, h2, _⟩, h3⟩; exact ⟨h1, h2, h3⟩
  · rintro ⟨h1, h2, h3⟩
    refine ⟨⟨h1, h2, fun x r e => ?_⟩, h3⟩
    have := h1 x (by rw [e]; simp)
    unfold labOk at this
    simp only [Bool.and_eq_true, decide_eq_true_eq] at this
    exact empty_less (name_size this.1.1)
theorem labOk_iff (x : Lb) : labOk x = true ↔ okX x ∧ 0 < x.2.size := by
  unfold labOk okX
  simp only [Bool.and_eq_true, decide_eq_true_eq]
  exact ⟨fun ⟨⟨a, b⟩, c⟩ => ⟨⟨a, c⟩, b⟩, fun ⟨⟨a, c⟩, b⟩ => ⟨⟨a, b⟩, c⟩⟩
theorem right_of_set {l : List Lb} (h : OkP l ∧ (keepL l).length ≤ 32) : rightL (insL (keepL l)) = true := by
  rw [right_iff]
  refine ⟨fun x hx => ?_, ins_strict (keep_pair h.1.2), by rw [ins_length]; exact h.2⟩
  have hx := (ins_perm _).mem_iff.1 hx
  unfold keepL at hx
  rw [List.mem_filter, decide_eq_true_eq] at hx
  exact (labOk_iff x).2 ⟨h.1.1 x hx.1, hx.2⟩
theorem okP_right {l : List Lb} (h : rightL l = true) : OkP l ∧ (keepL l).length ≤ 32 ∧ keepL l = l ∧ insL l = l := by
  obtain ⟨h1, h2, h3⟩ := (right_iff l).1 h
  have hk : keepL l = l := List.filter_eq_self.2 fun x hx => decide_eq_true ((labOk_iff x).1 (h1 x hx)).2
  exact ⟨⟨fun x hx => ((labOk_iff x).1 (h1 x hx)).1, strict_ne h2⟩, by rw [hk]; exact h3, hk, strict_unique _ _ (ins_strict (strict_ne h2)) h2 (ins_perm l)⟩
end Go.Proofs.YtnnfhcbopchodaaDoor
