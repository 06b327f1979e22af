/- The guard 'names' of chapter 3's laws. -/
import Derived.Test.YtdpigfcnphklgaaDoorLa13
namespace Go.Proofs.YtdpigfcnphklgaaDoor
open Go.RowKit
set_option linter.unusedVariables false
set_option linter.unusedSimpArgs false
set_option maxRecDepth 100000
def namesOk (l : List ByteArray) : Bool := decide (l.length ≤ 80) && (l.take 81).all fun x => decide (x.size ≤ 400)
set_option maxHeartbeats 2000000 in
theorem names_any (v : Value) (l : List ByteArray) (w : World) (h : Sl senc1 w v l) :
    Calls Tryd.prog 26 #[v] w fun e w' => (e = .returned (.bool false) ∨ (e = .returned (.bool true) ∧ l.length ≤ 80)) ∧ w' = w := by
  obtain ⟨a, cap, rfl, hlen, hc⟩ := h.strings
  have HC := Lib.hid hc
  clear hc h
  go_enter Tryd.func26, Tryd.ntmps26
  go_wp2_with fail
  go_loopw [3] (fun i wr => ∃ (k : Nat), k ≤ l.length ∧ k ≤ 81 ∧ i = .int .i64 k ∧ wr = w) (fun i _ => l.length - (intOf i).toNat)
  case atStart => exact ⟨0, Nat.zero_le _, by omega, rfl, rfl⟩
  case round =>
    obtain ⟨k, hk, hk81, rfl, rfl⟩ := hrel
    by_cases hlt : k < l.length
    · have hltz : (k : Int) < (l.length : Int) := by omega
      have h00 : (0 : Int) ≤ (k : Int) := by omega
      by_cases h80 : k ≤ 80
      · have h80z : (k : Int) ≤ 80 := by omega
        have h80b : decide ((k : Int) ≤ 80) = true := decide_eq_true h80z
        obtain ⟨b, off, rfl, hcc⟩ := HC.out k hlt
        have k0 := hcc k hlt
        clear hcc
        generalize l[k] = y at k0
        by_cases h1 : 400 < y.size
        · have h1z : (400 : Int) < (y.size : Int) := by omega
          go_wp2_with fail
          go_ret
          first | exact ⟨.inl rfl, rfl⟩ | exact .inl rfl
        · have h1z : ¬ (400 : Int) < (y.size : Int) := by omega
          go_wp2_with fail
          go_roundw
          case rel => exact ⟨k + 1, by omega, by omega, by go_num, by trivial⟩
          case measure => simp [intOf]; omega
      · have h80z : ¬ (k : Int) ≤ 80 := by omega
        have h80b : decide ((k : Int) ≤ 80) = false := decide_eq_false h80z
        have hb : ¬ (l.length : Int) ≤ 80 := by omega
        have hbb : decide ((l.length : Int) ≤ 80) = false := decide_eq_false hb
        go_wp2_with fail
        go_ret
        first | exact ⟨by rfl, rfl⟩ | exact ⟨.inl (by rfl), rfl⟩ | exact ⟨.inl (by simp [hbb]), rfl⟩
    · have hltz : ¬ (k : Int) < (l.length : Int) := by omega
      by_cases hb0 : l.length ≤ 80
      · have hb : (l.length : Int) ≤ 80 := by omega
        have hbb : decide ((l.length : Int) ≤ 80) = true := decide_eq_true hb
        go_wp2_with fail
        go_ret
        first | exact ⟨.inr (by rfl), rfl⟩ | exact ⟨.inr ⟨by rfl, hb0⟩, rfl⟩ | exact ⟨.inr ⟨by simp [hbb], hb0⟩, rfl⟩
      · have hb : ¬ (l.length : Int) ≤ 80 := by omega
        have hbb : decide ((l.length : Int) ≤ 80) = false := decide_eq_false hb
        go_wp2_with fail
        go_ret
        first | exact ⟨by rfl, rfl⟩ | exact ⟨.inl (by rfl), rfl⟩ | exact ⟨.inl (by simp [hbb]), rfl⟩
end Go.Proofs.YtdpigfcnphklgaaDoor
