/- The reference's decimal: the walk. -/
import Derived.Test.YtkflhfdpdgnbfaaDoorSt3
import Derived.Test.YtkflhfdpdgnbfaaDoorSt9
import Derived.Laws.BytesString
import Derived.Laws.BytesArg
namespace Go.Proofs.YtkflhfdpdgnbfaaDoor
open Go Go.RowKit
set_option linter.unusedVariables false
set_option linter.unusedSimpArgs false
set_option maxRecDepth 100000

theorem conv1 (w : World) (x : Int) : (convert 54 9 (.slice (some ⟨w.heap.size, 0, none⟩) 1 1)).run Tryd.prog (w.alloc (.cells #[.int .u8 x] 5)) = .ok (.string (strOfNums [x])) (w.alloc (.cells #[.int .u8 x] 5)) := by
  refine run_convert_bytes_arg _ _ _ Tryd.underlying54 Tryd.underlying5 _ _ _ _ [x] rfl (fun i hi => ?_) _ Tryd.underlying9
  obtain rfl : i = 0 := by simp at hi; omega
  exact World.cell?_alloc_at _ _ _ _ rfl
/-- The digits ahead of those that are laid. -/
def preD (n : Nat) : List UInt8 := if n < 10 then [] else Lib.decDigits (n / 10)
theorem dec_pre (n : Nat) : Lib.decDigits n = preD n ++ [UInt8.ofNat (48 + n % 10)] := by
  rw [Lib.decDigits, preD]
  split
  · rename_i h
    rw [Nat.mod_eq_of_lt h]; rfl
  · rfl
theorem itoaB_of {n : Nat} {s : ByteArray} (h : Lib.decDigits n = s.data.toList) : itoaB n = s := by
  unfold itoaB Lib.itoa
  rw [if_neg (by omega), Int.toNat_natCast, h]
theorem strOfNums1 (n : Nat) : (strOfNums [(48 : Int) + (n : Int) % 10]).data.toList = [UInt8.ofNat (48 + n % 10)] := by
  rw [strOfNums_data]
  simp only [List.map_cons, List.map_nil]
  congr 2
theorem digs_bd {n : Nat} (h : n ≤ 1125899906842624) : (Lib.decDigits n).length ≤ 19 := decDigits_len 18 n (by omega)
theorem decimal_any (n : Nat) (w : World) (h1 : n ≤ 1125899906842624) :
    Calls Tryd.prog 31 #[.int .i64 n] w fun e w' => e = .returned (.string (itoaB n)) ∧ Below w.heap.size w w' := by
  have hk := conv1
  have h0 : (0 : Int) ≤ (n : Int) := Int.natCast_nonneg _
  have m1 := Int.emod_nonneg (n : Int) (b := 10) (by omega)
  have m2 := Int.emod_lt_of_pos (n : Int) (b := 10) (by omega)
  go_enter Tryd.func31, Tryd.ntmps31
  go_wp2_with fail
  have HS := Lib.hid (strOfNums1 n)
  obtain ⟨s0, hs0⟩ : ∃ s, s = strOfNums [(48 : Int) + (n : Int) % 10] := ⟨_, rfl⟩
  rw [← hs0]
  have HS0 := Lib.hid hs0
  have hd := digs_bd h1
  have HD := Lib.hid hd
  clear hs0 m1 m2 hd
  go_loopw [0, 3] (fun nv sv wr => ∃ (m : Nat) (s : ByteArray), nv = .int .i64 m ∧ sv = .string s ∧ m ≤ n ∧ Lib.decDigits n = preD m ++ s.data.toList ∧ Below w.heap.size w wr) (fun v _ _ => (intOf v).toNat)
  case atStart => exact ⟨n, s0, rfl, rfl, Nat.le_refl _, by rw [dec_pre n, HS0.out, HS.out], (Below.refl _ _).alloc (Nat.le_refl _) _⟩
  case round =>
    obtain ⟨m, s, rfl, rfl, hm, hv, hb⟩ := hrel
    have hl : s.size ≤ 19 := by
      have := congrArg List.length hv
      rw [List.length_append] at this
      have h2 := HD.out
      have h3 : s.data.toList.length = s.size := by simp
      omega
    have HV := Lib.hid hv
    have HB := Lib.hid hb
    have hm0 : (0 : Int) ≤ (m : Int) := Int.natCast_nonneg _
    clear hv hb
    by_cases hlt : m < 10
    · have hl2 : ¬ (10 : Int) ≤ (m : Int) := by omega
      have HI := Lib.hid (show itoaB n = s from itoaB_of (by rw [HV.out, preD, if_pos hlt]; rfl))
      clear hlt
      go_wp2_with fail
      go_ret
      exact ⟨by rw [HI.out]; rfl, HB.out⟩
    · have hl2 : (10 : Int) ≤ (m : Int) := by omega
      have q1 : 0 ≤ (m : Int) / 10 := by omega
      have q2 : (m : Int) / 10 ≤ (m : Int) := by omega
      have m1 := Int.emod_nonneg ((m : Int) / 10) (b := 10) (by omega)
      have m2 := Int.emod_lt_of_pos ((m : Int) / 10) (b := 10) (by omega)
      have hsn : (strOfNums [(48 : Int) + (m : Int) / 10 % 10]).data.toList = [UInt8.ofNat (48 + m / 10 % 10)] := by
        have h := strOfNums1 (m / 10)
        rw [Int.natCast_ediv] at h
        exact h
      have hsz := strOfNums_size [(48 : Int) + (m : Int) / 10 % 10]
      have HSN := Lib.hid hsn
      have HSZ := Lib.hid hsz
      have hsum : ¬ 9223372036854775807 < (strOfNums [(48 : Int) + (m : Int) / 10 % 10]).size + s.size := by rw [hsz]; simp; omega
      have hsum2 : ¬ 9223372036854775807 < 1 + s.size := by omega
      have HLT := Lib.hid hlt
      clear hlt hsn hsz
      go_wp2_with fail
      go_roundw
      case rel =>
        refine ⟨m / 10, _, by rw [Int.natCast_ediv]; rfl, rfl, by omega, ?_, HB.out.alloc HB.out.size _⟩
        rw [HV.out, preD, if_neg HLT.out, dec_pre (m / 10), ByteArray.data_append, Array.toList_append, HSN.out, List.append_assoc]
      case measure => simp [intOf]; omega

theorem rtext_step (d u : Int) (out S nm : ByteArray) : out ++ (S ++ nm) = out ++ S ++ nm := by
  rw [ByteArray.append_assoc]
theorem mod_of (d u : Int) : d - d / u * u = d % u := by
  have := Int.mul_ediv_add_emod d u
  rw [Int.mul_comm] at this
  omega
theorem units_UR (k : Nat) (h : k < unitsL.length) : UR (k : Int) unitsL[k].1 := by
  have : k < 5 := h
  unfold UR
  rcases k with _ | _ | _ | _ | _ | k
  · exact .inl ⟨rfl, rfl⟩
  · exact .inr (.inl ⟨rfl, rfl⟩)
  · exact .inr (.inr (.inl ⟨rfl, rfl⟩))
  · exact .inr (.inr (.inr (.inl ⟨rfl, rfl⟩)))
  · exact .inr (.inr (.inr (.inr ⟨rfl, rfl⟩)))
  · omega
def unames : List ByteArray := [⟨#[100]⟩, ⟨#[104]⟩, ⟨#[109]⟩, ⟨#[115]⟩, ⟨#[109, 115]⟩]
theorem unames_at (k : Nat) (h : k < unitsL.length) : unames[k]'h = unitsL[k].2 := by
  have : k < 5 := h
  rcases k with _ | _ | _ | _ | _ | k
  all_goals first | rfl | omega

set_option maxHeartbeats 4000000 in
theorem rtext_any (d0 : Int) (w : World) :
    Calls Tryd.prog 12 #[.int .i64 d0] w fun e w' => e = .returned (.tuple #[.string (textV d0).1, .int .i64 (textV d0).2]) ∧ Below w.heap.size w w' := by
  by_cases h1 : d0 < 1
  · have HQ := Lib.hid (show textV d0 = (⟨#[]⟩, 1) by rw [textV, if_pos (.inl h1)])
    go_enter Tryd.func12, Tryd.ntmps12
    go_wp2_with fail
    go_ret2
    exact ⟨ret_si (by rw [HQ.out]) (by rw [HQ.out]), Below.refl _ _⟩
  · by_cases h2 : d0 ≤ 1125899906842624
    · have HQ := Lib.hid (show textV d0 = (textFrom unitsL d0 ⟨#[]⟩, 0) by rw [textV, if_neg (by omega)])
      have h3 : 0 < d0 := by omega
      clear h1
      go_enter Tryd.func12, Tryd.ntmps12
      go_wp2_with fail
      obtain ⟨B, hB⟩ : ∃ B, B = w.heap.size := ⟨_, rfl⟩
      obtain ⟨w1, hw1⟩ : ∃ w1, w1 = w.alloc (.cells #[.string ⟨#[100]⟩, .string ⟨#[104]⟩, .string ⟨#[109]⟩, .string ⟨#[115]⟩, .string ⟨#[109, 115]⟩] 9) := ⟨_, rfl⟩
      have hcn : ∀ k (hk : k < unitsL.length), w1.cell? ⟨B, k, none⟩ = some (.string unitsL[k].2) := by
        intro k hk
        have hb : w1.heap[B]? = some (.cells (unames.map Value.string).toArray 9 (0, 0)) := by rw [hw1, hB]; exact heap_new w _
        rw [cell_of_row w1 B k _ _ _ hb, ← unames_at k hk]
        have : k < unames.length := hk
        simp [this]
        rfl
      have hb1 : Below w.heap.size w w1 := by rw [hw1]; exact (Below.refl _ _).alloc (Nat.le_refl _) _
      rw [← hw1, ← hB]
      have HB1 := Lib.hid hb1
      have HC := Lib.hid hcn
      clear hw1 hcn hb1 hB
      go_loopw [0, 5, 6] (fun dv ov iv wr => ∃ (k : Nat) (d : Int) (out : ByteArray), k ≤ 5 ∧ iv = .int .i64 k ∧ dv = .int .i64 d ∧ ov = .string out ∧ 0 ≤ d ∧ d ≤ 1125899906842624 ∧ out.size ≤ 40 * k ∧ textFrom (unitsL.drop k) d out = textFrom unitsL d0 ⟨#[]⟩ ∧ Below w1.heap.size w1 wr) (fun _ _ i _ => 5 - (intOf i).toNat)
      case atStart => exact ⟨0, d0, ⟨#[]⟩, by omega, rfl, rfl, rfl, by omega, h2, by decide, rfl, Below.refl _ _⟩
      case round =>
        obtain ⟨k, d, out, hk, rfl, rfl, rfl, hd1, hd2, ho, hv, hb⟩ := hrel
        have HV := Lib.hid hv
        have HB := Lib.hid hb
        clear hv hb
        by_cases hlt : k < 5
        · obtain ⟨hu1, hu2, hu3⟩ := units_at k hlt
          have hur := units_UR k hlt
          have hdr : unitsL.drop k = unitsL[k] :: unitsL.drop (k + 1) := List.drop_eq_getElem_cons hlt
          have hcc := HC.out k hlt
          obtain ⟨x, hx⟩ : ∃ x, x = unitsL[k] := ⟨_, rfl⟩
          rw [← hx] at hcc hu1 hu2 hu3 hdr hur
          obtain ⟨u, nm⟩ := x
          simp only at hu1 hu2 hu3 hur
          have p0 : wr.cell? ⟨B, k, none⟩ = some (.string nm) := cell_below HB.out (Nat.le_refl _) hcc
          have HDR := Lib.hid hdr
          have HSZ := Lib.hid (fun w => rsize_any k u w hur)
          have hk0 : (0 : Int) ≤ (k : Int) := Int.natCast_nonneg _
          have hk1 : (k : Int) < 5 := by omega
          obtain ⟨q1, q2, q3, q4⟩ := quo_fit (d := d) (u := u) hu1 hd1
          have hu0 : u ≠ 0 := by omega
          have r1 := Int.emod_nonneg d (b := u) hu0
          have r2 : d % u ≤ d := by have := mod_of d u; omega
          have HMO := Lib.hid (mod_of d u)
          clear hx hcc hdr hur
          by_cases hz : 0 < d / u
          · obtain ⟨qn, hqn⟩ : ∃ qn : Nat, d / u = qn := ⟨(d / u).toNat, by omega⟩
            have HQN := Lib.hid hqn
            have HZ := Lib.hid hz
            clear hqn
            go_wp2_with fail
            refine (HSZ.out _).mono ?_
            rintro x w2 ⟨rfl, hb2⟩
            have HB2 := Lib.hid (HB.out.trans (hb2.mono HB.out.size))
            replace p0 := cell_below hb2 (Nat.le_refl _) p0
            clear hb2
            go_wp2_with fail
            refine (HSZ.out _).mono ?_
            rintro x w3 ⟨rfl, hb3⟩
            have HB3 := Lib.hid (HB2.out.trans (hb3.mono HB2.out.size))
            replace p0 := cell_below hb3 (Nat.le_refl _) p0
            clear hb3
            go_wp2_with fail
            have hsz1 : (itoaB (d / u)).size ≤ 19 := itoaB_size q1 (by omega)
            obtain ⟨S, hS⟩ : ∃ S, S = itoaB (d / u) := ⟨_, rfl⟩
            have hia := fun w => decimal_any qn w (by have := HQN.out; omega)
            rw [← HQN.out, ← hS] at hia
            rw [← hS] at hsz1
            have HSZ3 := Lib.hid (show (out ++ S ++ nm).size ≤ 40 * (k + 1) by rw [ByteArray.size_append, ByteArray.size_append]; omega)
            have hsz4 : ¬ 9223372036854775807 < out.size + S.size := by omega
            have hsz5 : ¬ 9223372036854775807 < out.size + S.size + nm.size := by omega
            have HIA := Lib.hid hia
            have HS := Lib.hid hS
            clear hia hS hz hsz1
            go_region_held3 (fun w' => Below w3.heap.size w3 w' ∧ w'.cell? ⟨B, k, none⟩ = some (.string nm))
              (exact ⟨by go_grown, cell_below (B := w3.heap.size) (by go_grown) (Nat.le_refl _) p0⟩)
              (first
                | (go_at_call 31
                   refine (HIA.out _).mono ?_
                   rintro e w9 ⟨rfl, hb9⟩
                   have hbC : Below w3.heap.size w3 w9 := Below.trans (by go_grown) (hb9.mono (by first | exact Nat.le_refl _ | (simp; done)))))
            have HBD := Lib.hid (HB3.out.trans (hbC.mono HB3.out.size))
            clear hbC hb9 hsz4 hsz5
            go_wp2_with fail
            go_roundw
            case rel =>
              refine ⟨k + 1, d % u, out ++ S ++ nm, by omega, by go_num, rfl, rfl, r1, by omega, HSZ3.out, ?_, HBD.out⟩
              rw [← HV.out, HDR.out, textFrom, if_pos HZ.out, HS.out, ByteArray.append_assoc, HMO.out]
            case measure => simp [intOf]; omega
          · have hz2 : d / u ≤ 0 := by omega
            have hz3 : d / u = 0 := by omega
            have HQ2 := Lib.hid hz
            have HMD := Lib.hid (show d % u = d by have := HMO.out; rw [hz3] at this; omega)
            clear hz hz3
            go_wp2_with fail
            refine (HSZ.out _).mono ?_
            rintro x w2 ⟨rfl, hb2⟩
            have HB2 := Lib.hid (HB.out.trans (hb2.mono HB.out.size))
            clear hb2
            go_wp2_with fail
            refine (HSZ.out _).mono ?_
            rintro x w3 ⟨rfl, hb3⟩
            have HB3 := Lib.hid (HB2.out.trans (hb3.mono HB2.out.size))
            clear hb3
            go_wp2_with fail
            go_roundw
            case rel =>
              refine ⟨k + 1, d % u, out, by omega, by go_num, rfl, rfl, r1, by omega, by omega, ?_, HB3.out⟩
              rw [← HV.out, HDR.out, textFrom, if_neg (show ¬ 0 < d / u from by have := HQ2.out; omega), HMD.out]
            case measure => simp [intOf]; omega
        · obtain rfl : k = 5 := by omega
          go_wp2_with fail
          go_ret2
          exact ⟨ret_si (by rw [HQ.out, ← HV.out]; rfl) (by rw [HQ.out]), HB1.out.trans (HB.out.mono HB1.out.size)⟩
    · have HQ := Lib.hid (show textV d0 = (⟨#[]⟩, 1) by rw [textV, if_pos (.inr (by omega))])
      have h3 : 1125899906842624 < d0 := by omega
      have h4 : 1 ≤ d0 := by omega
      clear h1 h2
      go_enter Tryd.func12, Tryd.ntmps12
      go_wp2_with fail
      go_ret2
      exact ⟨ret_si (by rw [HQ.out]) (by rw [HQ.out]), Below.refl _ _⟩
end Go.Proofs.YtkflhfdpdgnbfaaDoor
