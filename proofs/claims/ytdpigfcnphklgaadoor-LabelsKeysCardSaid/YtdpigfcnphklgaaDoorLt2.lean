/- Labels as a text: the document's walk. -/
import Derived.Test.YtdpigfcnphklgaaDoorLt1
import Derived.WalkSpells
namespace Go.Proofs.YtdpigfcnphklgaaDoor
open Go Go.RowKit
set_option linter.unusedVariables false
set_option linter.unusedSimpArgs false
set_option maxRecDepth 100000
def commaB (ps : List ByteArray) : List UInt8 := ps.flatMap fun p => 44 :: p.data.toList
theorem comma_snoc (ps : List ByteArray) (p : ByteArray) : commaB (ps ++ [p]) = commaB ps ++ 44 :: p.data.toList := by simp [commaB]
theorem comma_join (p : ByteArray) (r : List ByteArray) : (commaB (p :: r)).drop 1 = Lib.join ((p :: r).map (·.data.toList)) [44] := by
  rw [List.map_cons, Lib.join_cons]
  have : Lib.joinTail [44] (r.map (·.data.toList)) = commaB r := by
    unfold Lib.joinTail commaB
    rw [List.flatMap_def, List.map_map]
    congr 1
  rw [this]
  simp [commaB]
theorem quote_S2 (s : ByteArray) (w : World) (hs : s.size ≤ 3000) : Calls Tryd.prog 23 #[.string s] w fun e w' => e = .returned (.string (quoteS s)) ∧ Below w.heap.size w w' := rquote_any s w (by omega)
set_option maxHeartbeats 4000000 in
theorem rtext_any (v : Value) (l : List Lb) (w : World) (h : Sl lenc w v l) (hl : l.length ≤ 100000) (hs : SizesOk l) :
    Calls Tryd.prog 25 #[v] w fun e w' => e = .returned (.string (textL l)) ∧ Below w.heap.size w w' := by
  have HGet := Lib.hid (rget_any v l nameS w h)
  obtain ⟨a, cap, rfl, hlen, -, hc⟩ := h.split lenc_len
  have HC := Lib.hid hc
  have HZ := Lib.hid hs
  have hnsz := nameOf_size hs
  have HNZ := Lib.hid hnsz
  clear hc h hs hnsz
  obtain ⟨nm, hnm⟩ : ∃ nm, nm = nameOf l := ⟨_, rfl⟩
  go_enter Tryd.func25, Tryd.ntmps25
  go_wp2_with fail
  refine HGet.out.mono ?_
  rintro e w1 ⟨rfl, rfl⟩
  go_wp2_with fail
  refine (rname_any _ _).mono ?_
  rintro e w1' ⟨rfl, rfl⟩
  by_cases hn : nameB (getL nameS l) = true
  case' pos =>
    rw [hn]
    go_wp2_with fail
    rw [show getL nameS l = nm by rw [hnm, nameOf, if_pos hn]]
  case' neg =>
    have hn2 : nameB (getL nameS l) = false := by simpa using hn
    rw [hn2]
    go_wp2_with fail
    have HE0 := Lib.hid (show nm = (⟨#[]⟩ : ByteArray) by rw [hnm, nameOf, if_neg hn])
    conv =>
      arg 4
      rw [show (⟨#[]⟩ : ByteArray) = nm by rw [hnm, nameOf, if_neg hn]]
  all_goals
    have HNM := Lib.hid hnm
    clear hnm hn
    go_loopw [4, 5] (fun v i wr => ∃ (k : Nat) (acc : ByteArray), k ≤ l.length ∧ i = .int .i64 k ∧ v = .string acc ∧ Hid (acc.data.toList = commaB (partsL nm (l.take k))) ∧ acc.size ≤ k * 14001 ∧ Hid (Below w1'.heap.size w1' wr)) (fun _ i _ => l.length - (intOf i).toNat)
    case atStart => exact ⟨0, ⟨#[]⟩, Nat.zero_le _, rfl, by first | rfl | exact congrArg Value.string HE0.out, rfl, Nat.zero_le _, Below.refl _ _⟩
    case round =>
      obtain ⟨k, acc, hk, rfl, rfl, HA, haz, HB⟩ := hrel
      have h00 : (0 : Int) ≤ (k : Int) := by omega
      by_cases hlt : k < l.length
      · have hltz : (k : Int) < (l.length : Int) := by omega
        obtain ⟨b, off, rfl, hk0, hk1⟩ := lab_cells HC.out HB.out (Nat.le_refl _) hlt
        have HPS := Lib.hid (parts_snoc nm l k hlt)
        have hxz := HZ.out _ (lx_mem hlt)
        have hpz := partS_size hxz
        have HXZ := Lib.hid hxz
        by_cases hkp : keptT nm (lx l k) = true
        · have HKP := Lib.hid (show partsL nm (l.take (k + 1)) = partsL nm (l.take k) ++ [partS (lx l k)] by rw [HPS.out, if_pos hkp])
          have hq := quoteS_size (lx l k).2
          have hsum0 : ¬ 9223372036854775807 < acc.size + 1 := by omega
          have hsum1 : ¬ 9223372036854775807 < acc.size + 1 + (lx l k).1.size := by omega
          have hsum2 : ¬ 9223372036854775807 < acc.size + 1 + (lx l k).1.size + 1 := by omega
          have hsum3 : ¬ 9223372036854775807 < acc.size + 1 + (lx l k).1.size + 1 + (quoteS (lx l k).2).size := by omega
          have HACC := Lib.hid (show (acc ++ ⟨#[44]⟩ ++ (lx l k).1 ++ ⟨#[61]⟩ ++ quoteS (lx l k).2).data.toList = commaB (partsL nm (l.take (k + 1))) by
            rw [HKP.out, comma_snoc, ← HA.out]
            simp only [ByteArray.data_append, Array.toList_append, partS, eqS, List.append_assoc]
            rfl)
          have hasz : (acc ++ ⟨#[44]⟩ ++ (lx l k).1 ++ ⟨#[61]⟩ ++ quoteS (lx l k).2).size ≤ (k + 1) * 14001 := by
            have h1 : (⟨#[44]⟩ : ByteArray).size = 1 := rfl
            have h2 : (⟨#[61]⟩ : ByteArray).size = 1 := rfl
            have h3 : (partS (lx l k)).size = (lx l k).1.size + 1 + (quoteS (lx l k).2).size := by unfold partS; rw [ByteArray.size_append, ByteArray.size_append]; rfl
            simp only [ByteArray.size_append, h1, h2]
            omega
          have HASZ := Lib.hid hasz
          clear hxz hpz hq hasz
          by_cases he : ((lx l k).1.toList == nameS.toList) = true
          case' pos =>
            have hem : nm.toList.isEmpty = true := by
              unfold keptT at hkp
              rw [he] at hkp
              simpa using hkp
            have hem2 : nm.toList = [] := by simpa using hem
            rw [nameS_list] at he
            have hep : (lx l k).1.toList = [95, 95, 110, 97, 109, 101, 95, 95] := by simpa using he
          case' neg =>
            have he2 : ((lx l k).1.toList == nameS.toList) = false := by simpa using he
            rw [nameS_list] at he2
            have hep : ¬ (lx l k).1.toList = [95, 95, 110, 97, 109, 101, 95, 95] := by simpa using he2
            clear he
          all_goals
            clear hkp
            go_wp2_with fail
            go_region_held3 (fun w' => w'.cell? ⟨b, off + k * 2, none⟩ = some (.string (lx l k).1) ∧ w'.cell? ⟨b, off + k * 2 + 1, none⟩ = some (.string (lx l k).2))
              (exact ⟨cell_below (B := wr.heap.size) (by go_grown) (Nat.le_refl _) hk0, cell_below (B := wr.heap.size) (by go_grown) (Nat.le_refl _) hk1⟩)
              (first
                | (go_at_call 23
                   refine (quote_S2 _ _ HXZ.out.2).mono ?_
                   rintro e w9 ⟨rfl, hb9⟩
                   have hbA : Below wr.heap.size wr w9 := Below.trans (by go_grown) (hb9.mono (by first | exact Nat.le_refl _ | (simp; done)))))
            all_goals
              have HBB := Lib.hid (HB.out.trans (hbA.mono HB.out.size))
              clear hb9 hbA
              go_wp2_with fail
              go_roundw
              case rel => exact ⟨k + 1, _, by omega, by go_num, rfl, HACC.out, HASZ.out, HBB.out⟩
              case measure => simp [intOf]; omega
        · have HKP := Lib.hid (show partsL nm (l.take (k + 1)) = partsL nm (l.take k) by rw [HPS.out, if_neg hkp, List.append_nil])
          have hkp2 : keptT nm (lx l k) = false := by simpa using hkp
          unfold keptT at hkp2
          rw [Bool.or_eq_false_iff] at hkp2
          have he : ((lx l k).1.toList == nameS.toList) = true := by simpa using hkp2.1
          have hem := hkp2.2
          have hem2 : ¬ nm.toList = [] := by simpa using hem
          rw [nameS_list] at he
          have hep : (lx l k).1.toList = [95, 95, 110, 97, 109, 101, 95, 95] := by simpa using he
          clear hkp2 hkp
          go_wp2_with fail
          go_roundw
          case rel => exact ⟨k + 1, acc, by omega, by go_num, rfl, by rw [HKP.out]; exact HA.out, by omega, HB.out⟩
          case measure => simp [intOf]; omega
      · have hltz : ¬ (k : Int) < (l.length : Int) := by omega
        obtain rfl : k = l.length := by omega
        rw [List.take_of_length_le (Nat.le_refl _)] at HA
        have HTV := Lib.hid (show textL l = textV nm (partsL nm l) by rw [textL, ← HNM.out])
        have hnz : nm.size ≤ 3000 := by rw [HNM.out]; exact HNZ.out
        generalize partsL nm l = ps at HA HTV
        cases ps with
        | nil =>
          have ha0 : acc.toList = [] := by rw [ByteArray.toList_eq, HA.out]; rfl
          have ha1 : acc.toList.isEmpty = true := by rw [ha0]; rfl
          by_cases hne : nm.toList.isEmpty = true
          · have hne2 : nm.toList = [] := by simpa using hne
            have HF := Lib.hid (show textL l = ⟨#[123, 125]⟩ by
              have : nm = ⟨#[]⟩ := ba_eq (by rw [← ByteArray.toList_eq, hne2])
              rw [HTV.out, this]
              decide +kernel)
            go_wp2_with fail
            go_ret
            exact ⟨by rw [HF.out] <;> rfl, HB.out⟩
          · have hne1 : nm.toList.isEmpty = false := by simpa using hne
            have hne2 : ¬ nm.toList = [] := by simpa using hne
            have HF := Lib.hid (show textL l = nm by rw [HTV.out, textV, hne1]; rfl)
            clear hne
            go_wp2_with fail
            go_ret
            exact ⟨by rw [HF.out] <;> rfl, HB.out⟩
        | cons p r =>
          have haz1 : 1 ≤ acc.size := by
            have := congrArg List.length HA.out
            simp [commaB] at this
            omega
          have ha0 : ¬ acc.toList = [] := not_empty_of (by omega)
          have ha1 : acc.toList.isEmpty = false := by simpa using ha0
          have haz1z : (1 : Int) ≤ (acc.size : Int) := by omega
          have HX := Lib.hid (show (acc.extract 1 acc.size) = ⟨(Lib.join ((p :: r).map (·.data.toList)) [44]).toArray⟩ from ba_eq (by
            rw [Lib.extract_to_end, HA.out, comma_join]))
          have HF := Lib.hid (show textL l = nm ++ ⟨#[123]⟩ ++ acc.extract 1 acc.size ++ ⟨#[125]⟩ by rw [HX.out, HTV.out, textV]; rfl)
          have hxs : (acc.extract 1 acc.size).size ≤ acc.size := by rw [ByteArray.size_extract]; omega
          have hxe : (acc.extract 1 acc.size).size = acc.size - 1 := by rw [ByteArray.size_extract]; omega
          have hsum1 : ¬ 9223372036854775807 < nm.size + 1 := by omega
          have hsum2 : ¬ 9223372036854775807 < nm.size + 1 + (acc.size - 1) := by omega
          have hsum3 : ¬ 9223372036854775807 < nm.size + 1 + (acc.size - 1) + 1 := by omega
          clear hxs
          go_wp2_with fail
          go_ret
          exact ⟨by rw [HF.out] <;> rfl, HB.out⟩
end Go.Proofs.YtdpigfcnphklgaaDoor
