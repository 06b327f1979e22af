/- The library's stable sort at elements of k cells: swapRange, rotate. -/
import Derived.Test.YtkflhfdpdgnbfaaSoL
import Derived.Deep.LoopGhost
import Derived.BigRegion
import Derived.Deep.DeepCutAuto
namespace Go.Proofs.Ytkflhfdpdgnbfaa
open Go.Shelf Go.RowKit Go.Lib Go.Sort
set_option linter.unusedVariables false
set_option linter.unusedSimpArgs false
set_option maxRecDepth 100000

section
variable {α : Type} [Inhabited α] {enc : α → List Value}
set_option maxHeartbeats 4000000 in
theorem swapRange_P (k : Nat) (zE : ∀ w, (Go.sizeOf 35).run Try.prog w = .ok k w) (blk off cap a b n : Nat) (d0 d : Array α) (w0 w : World) (fv : Value)
    (R : RowK enc k w0 blk off d0) (hs : d0.size = d.size) (S : SWK enc k w0 blk off d w) (ha : a + n ≤ d.size) (hb : b + n ≤ d.size) (hsz : d.size < 4611686018427387904) :
    Calls Try.prog 89 #[.slice (some ⟨blk, off, none⟩) d.size cap, .int .i64 a, .int .i64 b, .int .i64 n, fv] w fun e w' => e = .returned (.tuple #[]) ∧ SWK enc k w0 blk off (swapFrom a b n 0 d) w' := by
  have S0 : Aside (SWK enc k w0 blk off d w) := S
  have mixed : Try.prog.follows .mixedOrders = true := by kernel_rfl
  clear S
  go_enter Try.func89, Try.ntmps89
  go_wp2_with fail
  go_loopg [10] n (fun g1 iv wr => ∃ (i : Nat) (dk : Array α), iv = .int .i64 i ∧ i ≤ n ∧ n - i ≤ g1 ∧ dk.size = d.size ∧ Aside (SWK enc k w0 blk off dk wr) ∧ Hid (swapFrom a b n i dk = swapFrom a b n 0 d))
  case atStart => exact ⟨0, d, rfl, by omega, by omega, rfl, S0, rfl⟩
  case round =>
    clear S0
    obtain ⟨i, dk, rfl, hi, hg, hds, S1, HE⟩ := hrel
    by_cases hlt : i < n
    · have hltz : (i : Int) < (n : Int) := by omega
      have ea : ((a : Int) + (i : Int)).toNat = a + i := by omega
      have pa : (0 : Int) ≤ (a : Int) + (i : Int) := by omega
      have ba : (a : Int) + (i : Int) < (d.size : Int) := by omega
      have ra : IntKind.i64.wrap ((a : Int) + (i : Int)) = (a : Int) + (i : Int) := by rw [IntKind.wrap_i64]; omega
      have ec : ((b : Int) + (i : Int)).toNat = b + i := by omega
      have pc : (0 : Int) ≤ (b : Int) + (i : Int) := by omega
      have bc : (b : Int) + (i : Int) < (d.size : Int) := by omega
      have rc : IntKind.i64.wrap ((b : Int) + (i : Int)) = (b : Int) + (i : Int) := by rw [IntKind.wrap_i64]; omega
      have S2 : Aside (SWK enc k w0 blk off (swp dk (a + i) (b + i)) ((wr.drew.setCells blk (off + (a + i) * k) (enc dk[b + i]!)).setCells blk (off + (b + i) * k) (enc dk[a + i]!))) := S1.out.swapped R (a + i) (b + i) (by omega) (by omega)
      have l1 := S1.out.ld1 R (by omega) Try.prog (a + i) (by omega)
      have l2 := S1.out.ld1 R (by omega) Try.prog (b + i) (by omega)
      have s1 := S1.out.st1 R (by omega) Try.prog (a + i) (by omega) dk[b + i]!
      have s2 := S1.out.st2 R (by omega) Try.prog (a + i) (b + i) (by omega) (by omega) dk[b + i]! dk[a + i]!
      have n1 : (enc dk[a + i]!).length = k := R.hk _
      have n2 : (enc dk[b + i]!).length = k := R.hk _
      generalize enc dk[a + i]! = cI at S2 l1 s2 n1
      generalize enc dk[b + i]! = cJ at S2 l2 s1 s2 n2
      clear S1
      go_wp2_with fail
      go_big_region_o
      clear l1 l2 s1 s2
      generalize (wr.drew.setCells blk (off + (a + i) * k) cJ).setCells blk (off + (b + i) * k) cI = w2 at S2 ⊢
      go_wp2_with fail
      go_roundg (n - (i + 1))
      case measure => omega
      case rel =>
        have he := HE.out
        rw [swapFrom, dif_pos hlt] at he
        exact ⟨i + 1, swp dk (a + i) (b + i), by simp, by omega, Nat.le_refl _, by rw [size_swp]; exact hds, S2, he⟩
    · obtain rfl : i = n := by omega
      go_wp2_with fail
      go_end0
      refine ⟨rfl, ?_⟩
      have he := HE.out
      rw [swapFrom, dif_neg (by omega)] at he
      rw [← he]
      exact S1.out

/-- A row of the sort's, its part from a to b turned at m. -/
def Turned (enc : α → List Value) (k : Nat) (w0 : World) (blk off a m b : Nat) (d : Array α) (w : World) : Prop := ∃ d', SWK enc k w0 blk off d' w ∧ d'.size = d.size ∧ PermIn a b d d' ∧ ∀ x, d'[x]! = rot a m b d x
def RotRel (enc : α → List Value) (k : Nat) (w0 : World) (blk off a m b : Nat) (d : Array α) (iv jv : Value) (wr : World) : Prop := ∃ (i j : Nat) (dk : Array α), iv = .int .i64 i ∧ jv = .int .i64 j ∧ 0 < i ∧ 0 < j ∧ a + i ≤ m ∧ m + j ≤ b ∧ dk.size = d.size ∧ SWK enc k w0 blk off dk wr ∧ PermIn a b d dk ∧ ∀ x, rot (m - i) m (m + j) dk x = rot a m b d x
set_option maxHeartbeats 4000000 in
theorem rotate_P (k : Nat) (zE : ∀ w, (Go.sizeOf 35).run Try.prog w = .ok k w) (blk off cap a m b : Nat) (d0 d : Array α) (w0 w : World) (fv : Value)
    (R : RowK enc k w0 blk off d0) (hs : d0.size = d.size) (S : SWK enc k w0 blk off d w) (ham : a < m) (hmb : m < b) (hb : b ≤ d.size) (hsz : d.size < 4611686018427387904) :
    Calls Try.prog 85 #[.slice (some ⟨blk, off, none⟩) d.size cap, .int .i64 a, .int .i64 m, .int .i64 b, fv] w fun e w' => e = .returned (.tuple #[]) ∧ Turned enc k w0 blk off a m b d w' := by
  have S0 : Aside (SWK enc k w0 blk off d w) := S
  have hsw := fun (x y n : Nat) (dk : Array α) (wk : World) (h : d0.size = dk.size) (hS : SWK enc k w0 blk off dk wk) (h1 : x + n ≤ dk.size) (h2 : y + n ≤ dk.size) (h3 : dk.size < 4611686018427387904) => swapRange_P k zE blk off cap x y n d0 dk w0 wk fv R h hS h1 h2 h3
  have HSW := Lib.hid hsw
  have HS := Lib.hid hs
  clear S hsw hs
  go_enter Try.func85, Try.ntmps85
  go_wp2_with fail
  go_loopw [10, 11] (fun iv jv wr => RotRel enc k w0 blk off a m b d iv jv wr) (fun iv jv _ => (intOf iv).toNat + (intOf jv).toNat)
  case atStart => exact ⟨m - a, b - m, d, by go_num, by go_num, by omega, by omega, by omega, by omega, rfl, S0.out, permIn_refl _ _ _, fun x => by rw [show m - (m - a) = a by omega, show m + (b - m) = b by omega]⟩
  case round =>
    clear S0
    obtain ⟨i, j, dk, rfl, rfl, hi, hj, hai, hjb, hds, hS, hP, hR⟩ := hrel
    have HSS := Lib.hid hS
    have HP := Lib.hid hP
    have HR := Lib.hid hR
    have HDS := Lib.hid hds
    have hmi : m - i + i = m := by omega
    have hm0 : (i : Int) ≤ (m : Int) := by omega
    have hb0 : (m : Int) + (j : Int) ≤ (d.size : Int) := by omega
    clear hS hP hR hds hmi
    by_cases h1 : j < i
    · have n1 : ((i : Int) == (j : Int)) = false := by simp; omega
      have n2 : (j : Int) < (i : Int) := by omega
      have HC := Lib.hid (show Calls Try.prog 89 #[.slice (some ⟨blk, off, none⟩) d.size cap, .int .i64 ((m : Int) - (i : Int)), .int .i64 m, .int .i64 j, fv] wr fun e w' => e = .returned (.tuple #[]) ∧ SWK enc k w0 blk off (swapFrom (m - i) m j 0 dk) w' by
        have h := HSW.out (m - i) m j dk wr (by rw [HDS.out]; exact HS.out) HSS.out (by have := HDS.out; omega) (by have := HDS.out; omega) (by have := HDS.out; omega)
        rw [show ((m - i : Nat) : Int) = (m : Int) - (i : Int) by omega, HDS.out] at h
        exact h)
      have hne : (i : Int) ≠ (j : Int) := by omega
      go_wp2_with fail
      refine HC.out.mono ?_
      rintro e w2 ⟨rfl, hs2⟩
      have HS2 := Lib.hid hs2
      clear hs2
      go_wp2_with fail
      go_roundw
      case rel =>
        exact ⟨i - j, j, swapFrom (m - i) m j 0 dk, by congr 1; omega, rfl, by omega, hj, by omega, hjb, by rw [swapFrom_size]; exact HDS.out, HS2.out,
          permIn_trans _ _ _ _ _ HP.out (swapFrom_perm (m - i) m j a b (by omega) (by omega) (by omega) (by omega) 0 dk (by have := HDS.out; omega)),
          fun x => (rot_more m i j dk (by omega) h1 hj (by have := HDS.out; omega) x).symm.trans (HR.out x)⟩
      case measure => simp [intOf]; omega
    · by_cases h2 : i < j
      · have n1 : ((i : Int) == (j : Int)) = false := by simp; omega
        have n2 : ¬ (j : Int) < (i : Int) := by omega
        have n3 : (i : Int) ≤ (j : Int) := by omega
        have HC := Lib.hid (show Calls Try.prog 89 #[.slice (some ⟨blk, off, none⟩) d.size cap, .int .i64 ((m : Int) - (i : Int)), .int .i64 ((m : Int) + (j : Int) - (i : Int)), .int .i64 i, fv] wr fun e w' => e = .returned (.tuple #[]) ∧ SWK enc k w0 blk off (swapFrom (m - i) (m + j - i) i 0 dk) w' by
          have h := HSW.out (m - i) (m + j - i) i dk wr (by rw [HDS.out]; exact HS.out) HSS.out (by have := HDS.out; omega) (by have := HDS.out; omega) (by have := HDS.out; omega)
          rw [show ((m - i : Nat) : Int) = (m : Int) - (i : Int) by omega, show ((m + j - i : Nat) : Int) = (m : Int) + (j : Int) - (i : Int) by omega, HDS.out] at h
          exact h)
        have hne : (i : Int) ≠ (j : Int) := by omega
        go_wp2_with fail
        refine HC.out.mono ?_
        rintro e w2 ⟨rfl, hs2⟩
        have HS2 := Lib.hid hs2
        clear hs2
        go_wp2_with fail
        go_roundw
        case rel =>
          exact ⟨i, j - i, swapFrom (m - i) (m + j - i) i 0 dk, rfl, by congr 1; omega, hi, by omega, hai, by omega, by rw [swapFrom_size]; exact HDS.out, HS2.out,
            permIn_trans _ _ _ _ _ HP.out (swapFrom_perm (m - i) (m + j - i) i a b (by omega) (by omega) (by omega) (by omega) 0 dk (by have := HDS.out; omega)),
            fun x => (rot_less m i j dk (by omega) h2 hi (by have := HDS.out; omega) x).symm.trans (HR.out x)⟩
        case measure => simp [intOf]; omega
      · obtain rfl : i = j := by omega
        have HC := Lib.hid (show Calls Try.prog 89 #[.slice (some ⟨blk, off, none⟩) d.size cap, .int .i64 ((m : Int) - (i : Int)), .int .i64 m, .int .i64 i, fv] wr fun e w' => e = .returned (.tuple #[]) ∧ SWK enc k w0 blk off (swapFrom (m - i) m i 0 dk) w' by
          have h := HSW.out (m - i) m i dk wr (by rw [HDS.out]; exact HS.out) HSS.out (by have := HDS.out; omega) (by have := HDS.out; omega) (by have := HDS.out; omega)
          rw [show ((m - i : Nat) : Int) = (m : Int) - (i : Int) by omega, HDS.out] at h
          exact h)
        clear h1 h2
        go_wp2_with fail
        refine HC.out.mono ?_
        rintro e w2 ⟨rfl, hs2⟩
        have HS2 := Lib.hid hs2
        clear hs2
        go_wp2_with fail
        go_end0
        exact ⟨rfl, swapFrom (m - i) m i 0 dk, HS2.out, by rw [swapFrom_size]; exact HDS.out,
          permIn_trans _ _ _ _ _ HP.out (swapFrom_perm (m - i) m i a b (by omega) (by omega) (by omega) (by omega) 0 dk (by have := HDS.out; omega)),
          fun x => (rot_end m i dk (by omega) (by have := HDS.out; omega) x).trans (HR.out x)⟩
end
end Go.Proofs.Ytkflhfdpdgnbfaa
