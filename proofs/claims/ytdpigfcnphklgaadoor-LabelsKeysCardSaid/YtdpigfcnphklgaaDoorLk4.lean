/- Key: the document's walk. -/
import Derived.Test.YtdpigfcnphklgaaDoorLd1
namespace Go.Proofs.YtdpigfcnphklgaaDoor
open Go Go.RowKit
set_option linter.unusedVariables false
set_option linter.unusedSimpArgs false
set_option maxRecDepth 100000
theorem rdec_S (n : Nat) (w : World) (h1 : n ≤ 1000000) : Calls Tryd.prog 88 #[.int .i64 n] w fun e w' => e = .returned (.string (itoaB n)) ∧ Below w.heap.size w w' := rdec_any n w (by omega)
theorem bthen2 {a b c : World} (h : Below a.heap.size a b) (k : Below b.heap.size b c) : Below a.heap.size a c := h.trans (k.mono h.size)
set_option maxHeartbeats 8000000 in
theorem rkey_any (v : Value) (l : List Lb) (w : World) (h : Sl lenc w v l) (hl : l.length ≤ 100000) (hs : SizesOk l) :
    Calls Tryd.prog 49 #[v] w fun e w' => e = .returned (.string (keyL l)) ∧ Below w.heap.size w w' := by
  obtain ⟨a, cap, rfl, hlen, -, hc⟩ := h.split lenc_len
  have HC := Lib.hid hc
  have HZ := Lib.hid hs
  clear hc h hs
  go_enter Tryd.func49, Tryd.ntmps49
  go_wp2_with fail
  go_loopw [3, 4] (fun sv i wr => ∃ (k : Nat) (s : ByteArray), k ≤ l.length ∧ i = .int .i64 k ∧ sv = .string s ∧ Hid (s.data.toList = keyBytes (l.take k)) ∧ s.size ≤ k * 5000 ∧ Hid (Below w.heap.size w wr)) (fun _ i _ => l.length - (intOf i).toNat)
  case atStart => exact ⟨0, ⟨#[]⟩, Nat.zero_le _, rfl, rfl, rfl, Nat.zero_le _, Below.refl _ _⟩
  case round =>
    obtain ⟨k, s, hk, rfl, rfl, HS, hsz, HB⟩ := hrel
    have h00 : (0 : Int) ≤ (k : Int) := by omega
    by_cases hlt : k < l.length
    · have hltz : (k : Int) < (l.length : Int) := by omega
      obtain ⟨b, off, rfl, hk0, hk1⟩ := lab_cells HC.out HB.out (Nat.le_refl _) hlt
      have hxz := HZ.out _ (lx_mem hlt)
      obtain ⟨D1, hD1⟩ : ∃ D, D = itoaB ((lx l k).1.size : Int) := ⟨_, rfl⟩
      obtain ⟨D2, hD2⟩ : ∃ D, D = itoaB ((lx l k).2.size : Int) := ⟨_, rfl⟩
      have hd1 : D1.size ≤ 19 := by rw [hD1]; exact itoaB_size (by omega) (by omega)
      have hd2 : D2.size ≤ 19 := by rw [hD2]; exact itoaB_size (by omega) (by omega)
      have HX1 := Lib.hid (fun w => by have := rdec_S (lx l k).1.size w (by omega); rw [← hD1] at this; exact this)
      have HX2 := Lib.hid (fun w => by have := rdec_S (lx l k).2.size w (by omega); rw [← hD2] at this; exact this)
      have hk5 := keyBytes_snoc l k hlt
      have HACC := Lib.hid (show (s ++ D1 ++ ⟨#[58]⟩ ++ (lx l k).1 ++ D2 ++ ⟨#[58]⟩ ++ (lx l k).2).data.toList = keyBytes (l.take (k + 1)) by
        rw [hk5, ← HS.out, hD1, hD2]
        unfold pieceB pieceS colonS
        simp only [ByteArray.data_append, Array.toList_append, List.append_assoc])
      have e58 : (⟨#[58]⟩ : ByteArray).size = 1 := rfl
      have hasz : (s ++ D1 ++ ⟨#[58]⟩ ++ (lx l k).1 ++ D2 ++ ⟨#[58]⟩ ++ (lx l k).2).size ≤ (k + 1) * 5000 := by
        simp only [ByteArray.size_append, e58]
        omega
      have HASZ := Lib.hid hasz
      have m1 : ¬ 9223372036854775807 < s.size + D1.size := by omega
      have m2 : ¬ 9223372036854775807 < s.size + D1.size + 1 := by omega
      have m3 : ¬ 9223372036854775807 < s.size + D1.size + 1 + (lx l k).1.size := by omega
      have m4 : ¬ 9223372036854775807 < s.size + D1.size + 1 + (lx l k).1.size + D2.size := by omega
      have m5 : ¬ 9223372036854775807 < s.size + D1.size + 1 + (lx l k).1.size + D2.size + 1 := by omega
      have m6 : ¬ 9223372036854775807 < s.size + D1.size + 1 + (lx l k).1.size + D2.size + 1 + (lx l k).2.size := by omega
      clear hD1 hD2 hk5 hasz e58 hd1 hd2
      go_wp2_with fail
      go_region_held3 (fun w' => w'.cell? ⟨b, off + k * 2, none⟩ = some (.string (lx l k).1) ∧ w'.cell? ⟨b, off + k * 2 + 1, none⟩ = some (.string (lx l k).2))
        (exact ⟨cell_below (B := wr.heap.size) (by go_grown) (Nat.le_refl _) hk0, cell_below (B := wr.heap.size) (by go_grown) (Nat.le_refl _) hk1⟩)
        (first
          | (go_at_call 88
             (with_reducible refine (HX1.out _).mono ?_)
             rintro e wA ⟨rfl, hb9⟩
             have hbA : Below wr.heap.size wr wA := bthen2 (by go_grown) hb9)
          | (go_at_call 88
             (with_reducible refine (HX2.out _).mono ?_)
             rintro e wB ⟨rfl, hb8⟩
             have hbB : Below wr.heap.size wr wB := bthen2 (by go_grown) hb8))
      all_goals
        go_wp2_with fail
        go_roundw
        case rel => first | exact ⟨k + 1, _, by omega, by go_num, rfl, HACC.out, HASZ.out, HB.out.trans (hbB.mono HB.out.size)⟩ | exact ⟨k + 1, _, by omega, by go_num, rfl, HACC.out, HASZ.out, HB.out.trans (hbA.mono HB.out.size)⟩
        case measure => simp [intOf]; omega
    · have hltz : ¬ (k : Int) < (l.length : Int) := by omega
      obtain rfl : k = l.length := by omega
      rw [List.take_of_length_le (Nat.le_refl _)] at HS
      have HF := Lib.hid (show s = keyL l from ba_eq (by rw [HS.out]; rfl))
      go_wp2_with fail
      go_ret
      exact ⟨by rw [← HF.out] <;> rfl, HB.out⟩
end Go.Proofs.YtdpigfcnphklgaaDoor
