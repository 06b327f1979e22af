/- The document's decimal. -/
import Derived.Test.YtdpigfcnphklgaaDoorLp3
import Derived.Laws.BytesString
import Derived.Laws.BytesArg
namespace Go.Proofs.YtdpigfcnphklgaaDoor
open Go Go.RowKit
set_option linter.unusedVariables false
set_option linter.unusedSimpArgs false
set_option maxRecDepth 100000
theorem conv1 (w : World) (x : Int) : (convert 80 9 (.slice (some ⟨w.heap.size, 0, none⟩) 1 1)).run Tryd.prog (w.alloc (.cells #[.int .u8 x] 5)) = .ok (.string (strOfNums [x])) (w.alloc (.cells #[.int .u8 x] 5)) := by
  refine run_convert_bytes_arg _ _ _ Tryd.underlying80 Tryd.underlying5 _ _ _ _ [x] rfl (fun i hi => ?_) _ Tryd.underlying9
  obtain rfl : i = 0 := by simp at hi; omega
  exact World.cell?_alloc_at _ _ _ _ rfl
/-- The digits ahead of those that are laid. -/
def preD (n : Nat) : List UInt8 := if n < 10 then [] else Lib.decDigits (n / 10)
theorem dec_pre (n : Nat) : Lib.decDigits n = preD n ++ [UInt8.ofNat (48 + n % 10)] := by
  rw [Lib.decDigits, preD]
  split
  · rename_i h
    rw [Nat.mod_eq_of_lt h]; rfl
  · rfl
theorem itoaB_of {n : Nat} {s : ByteArray} (h : Lib.decDigits n = s.data.toList) : itoaB n = s := by
  unfold itoaB Lib.itoa
  rw [if_neg (by omega), Int.toNat_natCast, h]
theorem strOfNums1 (n : Nat) : (strOfNums [(48 : Int) + (n : Int) % 10]).data.toList = [UInt8.ofNat (48 + n % 10)] := by
  rw [strOfNums_data]
  simp only [List.map_cons, List.map_nil]
  congr 2
theorem digs_bd {n : Nat} (h : n ≤ 1125899906842624) : (Lib.decDigits n).length ≤ 19 := decDigits_len 18 n (by omega)
theorem rdec_any (n : Nat) (w : World) (h1 : n ≤ 1125899906842624) :
    Calls Tryd.prog 88 #[.int .i64 n] w fun e w' => e = .returned (.string (itoaB n)) ∧ Below w.heap.size w w' := by
  have hk := conv1
  have h0 : (0 : Int) ≤ (n : Int) := Int.natCast_nonneg _
  have m1 := Int.emod_nonneg (n : Int) (b := 10) (by omega)
  have m2 := Int.emod_lt_of_pos (n : Int) (b := 10) (by omega)
  go_enter Tryd.func88, Tryd.ntmps88
  go_wp2_with fail
  have HS := Lib.hid (strOfNums1 n)
  obtain ⟨s0, hs0⟩ : ∃ s, s = strOfNums [(48 : Int) + (n : Int) % 10] := ⟨_, rfl⟩
  rw [← hs0]
  have HS0 := Lib.hid hs0
  have hd := digs_bd h1
  have HD := Lib.hid hd
  clear hs0 m1 m2 hd
  go_loopw [0, 3] (fun nv sv wr => ∃ (m : Nat) (s : ByteArray), nv = .int .i64 m ∧ sv = .string s ∧ m ≤ n ∧ Lib.decDigits n = preD m ++ s.data.toList ∧ Below w.heap.size w wr) (fun v _ _ => (intOf v).toNat)
  case atStart => exact ⟨n, s0, rfl, rfl, Nat.le_refl _, by rw [dec_pre n, HS0.out, HS.out], (Below.refl _ _).alloc (Nat.le_refl _) _⟩
  case round =>
    obtain ⟨m, s, rfl, rfl, hm, hv, hb⟩ := hrel
    have hl : s.size ≤ 19 := by
      have := congrArg List.length hv
      rw [List.length_append] at this
      have h2 := HD.out
      have h3 : s.data.toList.length = s.size := by simp
      omega
    have HV := Lib.hid hv
    have HB := Lib.hid hb
    have hm0 : (0 : Int) ≤ (m : Int) := Int.natCast_nonneg _
    clear hv hb
    by_cases hlt : m < 10
    · have hl2 : ¬ (10 : Int) ≤ (m : Int) := by omega
      have HI := Lib.hid (show itoaB n = s from itoaB_of (by rw [HV.out, preD, if_pos hlt]; rfl))
      clear hlt
      go_wp2_with fail
      go_ret
      exact ⟨by rw [HI.out]; rfl, HB.out⟩
    · have hl2 : (10 : Int) ≤ (m : Int) := by omega
      have q1 : 0 ≤ (m : Int) / 10 := by omega
      have q2 : (m : Int) / 10 ≤ (m : Int) := by omega
      have m1 := Int.emod_nonneg ((m : Int) / 10) (b := 10) (by omega)
      have m2 := Int.emod_lt_of_pos ((m : Int) / 10) (b := 10) (by omega)
      have hsn : (strOfNums [(48 : Int) + (m : Int) / 10 % 10]).data.toList = [UInt8.ofNat (48 + m / 10 % 10)] := by
        have h := strOfNums1 (m / 10)
        rw [Int.natCast_ediv] at h
        exact h
      have hsz := strOfNums_size [(48 : Int) + (m : Int) / 10 % 10]
      have HSN := Lib.hid hsn
      have HSZ := Lib.hid hsz
      have hsum : ¬ 9223372036854775807 < (strOfNums [(48 : Int) + (m : Int) / 10 % 10]).size + s.size := by rw [hsz]; simp; omega
      have hsum2 : ¬ 9223372036854775807 < 1 + s.size := by omega
      have HLT := Lib.hid hlt
      clear hlt hsn hsz
      go_wp2_with fail
      go_roundw
      case rel =>
        refine ⟨m / 10, _, by rw [Int.natCast_ediv]; rfl, rfl, by omega, ?_, HB.out.alloc HB.out.size _⟩
        rw [HV.out, preD, if_neg HLT.out, dec_pre (m / 10), ByteArray.data_append, Array.toList_append, HSN.out, List.append_assoc]
      case measure => simp [intOf]; omega
end Go.Proofs.YtdpigfcnphklgaaDoor
