/- piece: the code's walk. -/
import Derived.Test.YtdpigfcnphklgaaDoorLp3
import Derived.WalkSpells
import Derived.Lib.AtoiErrMem
import Derived.Lib.AtoiOr
namespace Go.Proofs.YtdpigfcnphklgaaDoor
open Go Go.RowKit
set_option linter.unusedVariables false
set_option linter.unusedSimpArgs false
set_option maxRecDepth 100000
/-- What the walks of keys ask of the library's variables. -/
def ErrAt (w : World) (g : Nat) : Prop := ∃ ev, w.cell? ⟨g, 0, none⟩ = some ev ∧ (ev = .nilIface ∨ ∃ te pe, ev = .iface te pe)
def KW (w : World) : Prop := Tab w ∧ (∃ m, w.cell? ⟨0, 0, none⟩ = some (.int .i64 m)) ∧ ErrAt w 1 ∧ ErrAt w 2
theorem ErrAt.below {w w' : World} {g : Nat} (h : ErrAt w g) (hb : Below w.heap.size w w') : ErrAt w' g := by
  obtain ⟨ev, h1, h2⟩ := h
  exact ⟨ev, cell_below hb (Nat.le_refl _) h1, h2⟩
theorem KW.below {w w' : World} (h : KW w) (hb : Below w.heap.size w w') : KW w' := by
  obtain ⟨h1, ⟨m, h2⟩, h3, h4⟩ := h
  exact ⟨h1.below hb (Nat.le_refl _), ⟨m, cell_below hb (Nat.le_refl _) h2⟩, h3.below hb, h4.below hb⟩
theorem cut_any (s sep : ByteArray) (w : World) (h : KW w) (hs : s.size < 4294967281) :
    Calls Tryd.prog 107 #[.string s, .string sep] w fun e w' => e = .returned (.tuple #[.string ⟨(Lib.cut s.data.toList sep.data.toList).1.toArray⟩, .string ⟨(Lib.cut s.data.toList sep.data.toList).2.1.toArray⟩, .bool (Lib.cut s.data.toList sep.data.toList).2.2]) ∧ Below w.heap.size w w' := by
  obtain ⟨-, ⟨m, hm⟩, -, -⟩ := h
  refine (Tryd.strings_Cut s sep m w hs hm).mono ?_
  rintro e w' ⟨rfl, n, rfl⟩
  exact ⟨rfl, below_drewN (Below.refl _ _) n⟩
def AtoiR (l : List UInt8) (e : Ending) : Prop := match Lib.atoiAll l with
  | .ok n => e = .returned (.tuple #[.int .i64 n, .nilIface])
  | _ => ∃ v N, e = .returned (.tuple #[.int .i64 v, .iface 152 (.pointer (some ⟨N, 0, none⟩))])
theorem atoi_any (s : ByteArray) (w : World) (h : KW w) (hs : s.size ≤ 1000000) :
    Calls Tryd.prog 108 #[.string s] w fun e w' => AtoiR s.data.toList e ∧ Below w.heap.size w w' := by
  obtain ⟨-, -, ⟨e1, h1, k1⟩, ⟨e2, h2, k2⟩⟩ := h
  unfold AtoiR
  cases ha : Lib.atoiAll s.data.toList with
  | ok v =>
    refine (Tryd.strconv_Atoi_ok s (by omega) v ha w).mono ?_
    rintro e w' ⟨rfl, hw⟩
    refine ⟨rfl, ?_⟩
    rcases hw with rfl | ⟨t, rfl⟩
    · exact Below.refl _ _
    · exact Lib.bytesWorld_below _ _ _
  | range =>
    refine (Tryd.strconv_Atoi_range s (by omega) ha e2 w h2 k2).mono ?_
    rintro e w' ⟨N, rfl, -, -, hb⟩
    exact ⟨⟨_, N, rfl⟩, hb⟩
  | _ =>
    refine (Tryd.strconv_Atoi_syntax s (by omega) (fun v h => by rw [ha] at h; cases h) (fun h => by rw [ha] at h; cases h) e1 w h1 k1).mono ?_
    rintro e w' ⟨N, rfl, -, -, hb⟩
    exact ⟨⟨_, N, rfl⟩, hb⟩
def PieceR (l : List UInt8) (e : Ending) : Prop := match pieceP l with
  | none => e = .returned (.tuple #[.string ⟨#[]⟩, .string ⟨#[]⟩, .bool false])
  | some (t, r) => e = .returned (.tuple #[.string ⟨t.toArray⟩, .string ⟨r.toArray⟩, .bool true])
theorem pieceR_none {l : List UInt8} (h : pieceP l = none) : PieceR l (.returned (.tuple #[.string ⟨#[]⟩, .string ⟨#[]⟩, .bool false])) := by unfold PieceR; rw [h]
theorem pieceR_some {l t r : List UInt8} {a b : ByteArray} (h : pieceP l = some (t, r)) (ha : a = ⟨t.toArray⟩) (hb : b = ⟨r.toArray⟩) : PieceR l (.returned (.tuple #[.string a, .string b, .bool true])) := by unfold PieceR; rw [h, ha, hb]
theorem cut_parts (s : List UInt8) : (Lib.cut s [58]).1.length ≤ s.length ∧ (Lib.cut s [58]).2.1.length ≤ s.length ∧ ((Lib.cut s [58]).2.2 = true → (Lib.cut s [58]).2.1.length < s.length) := by
  unfold Lib.cut
  split
  · rename_i h
    refine ⟨by simp only [List.length_take]; omega, by simp only [List.length_drop]; omega, fun _ => ?_⟩
    have hl : s ≠ [] := by
      rintro rfl
      have : Lib.index [] [58] = -1 := rfl
      omega
    have := List.length_pos_iff.2 hl
    simp only [List.length_drop, List.length_cons, List.length_nil]
    omega
  · simp
set_option maxHeartbeats 4000000 in
theorem piece_any (s : ByteArray) (w : World) (h : KW w) (hs : s.size ≤ 1000000) :
    Calls Tryd.prog 83 #[.string s] w fun e w' => PieceR s.data.toList e ∧ Below w.heap.size w w' := by
  have hcut := cut_any s ⟨#[58]⟩ w h (by omega)
  have hcp := cut_parts s.data.toList
  have hsl : s.data.toList.length = s.size := by simp
  rw [hsl] at hcp
  have hP : pieceP s.data.toList = if (Lib.cut s.data.toList [58]).2.2 = false then none else
      match Lib.atoiAll (Lib.cut s.data.toList [58]).1 with
      | .ok n => if n < 0 ∨ ((Lib.cut s.data.toList [58]).2.1.length : Int) < n then none else some ((Lib.cut s.data.toList [58]).2.1.take n.toNat, (Lib.cut s.data.toList [58]).2.1.drop n.toNat)
      | _ => none := rfl
  have e58 : (⟨#[58]⟩ : ByteArray).data.toList = [58] := rfl
  rw [e58] at hcut
  generalize hc : Lib.cut s.data.toList [58] = c at hcut hcp hP
  obtain ⟨c1, c2, ok⟩ := c
  simp only at hcut hcp hP
  obtain ⟨hc1, hc2, hc3⟩ := hcp
  have HCUT := Lib.hid hcut
  have HP := Lib.hid hP
  have HK := Lib.hid h
  have hA : ∀ w, KW w → Calls Tryd.prog 108 #[.string ⟨c1.toArray⟩] w fun e w' => AtoiR c1 e ∧ Below w.heap.size w w' := fun w hk => atoi_any ⟨c1.toArray⟩ w hk (by show c1.toArray.size ≤ _; simp; omega)
  have HA := Lib.hid hA
  have hR : (⟨c2.toArray⟩ : ByteArray).size = c2.length := by show c2.toArray.size = _; simp
  have hRd : (⟨c2.toArray⟩ : ByteArray).data.toList = c2 := rfl
  generalize (⟨c1.toArray⟩ : ByteArray) = H1 at HCUT HA
  generalize hRR : (⟨c2.toArray⟩ : ByteArray) = R at HCUT hR hRd
  have HRD := Lib.hid hRd
  have HRZ := Lib.hid hR
  clear hRR hcut hP h hA hc hc3 hsl e58 hR hRd
  go_enter Tryd.func83, Tryd.ntmps83
  go_wp2_with fail
  refine HCUT.out.mono ?_
  rintro e w1 ⟨rfl, hb1⟩
  have HK1 := Lib.hid (HK.out.below hb1)
  have HB1 := Lib.hid hb1
  clear hb1
  go_wp2_with fail
  refine (HA.out _ HK1.out).mono ?_
  rintro e w2 ⟨he, hb2⟩
  have HB2 := Lib.hid (HB1.out.trans (hb2.mono HB1.out.size))
  clear hb2
  unfold AtoiR at he
  cases ha : Lib.atoiAll c1 with
  | ok n =>
    rw [ha] at he
    simp only at he
    subst he
    have hPn := HP.out
    rw [ha] at hPn
    simp only at hPn
    cases ok with
    | false =>
      have HF := Lib.hid (pieceR_none (show pieceP s.data.toList = none by rw [hPn]; rfl))
      clear hPn ha
      go_wp2_with fail
      go_ret3
      exact ⟨HF.out, HB2.out⟩
    | true =>
      have hPn2 : pieceP s.data.toList = if n < 0 ∨ (c2.length : Int) < n then none else some (c2.take n.toNat, c2.drop n.toNat) := by rw [hPn]; rfl
      have HPN := Lib.hid hPn2
      clear hPn hPn2 ha
      by_cases hn : n < 0
      · have hnb : decide (n < 0) = true := decide_eq_true hn
        have HF := Lib.hid (pieceR_none (show pieceP s.data.toList = none by rw [HPN.out, if_pos (.inl hn)]))
        go_wp2_with fail
        go_ret3
        exact ⟨HF.out, HB2.out⟩
      · have hnb : decide (n < 0) = false := decide_eq_false hn
        have hn0 : 0 ≤ n := by omega
        by_cases hl : (c2.length : Int) < n
        · have hl1 : (R.size : Int) < n := by rw [HRZ.out]; exact hl
          have hlb : decide ((R.size : Int) < n) = true := decide_eq_true hl1
          have HF := Lib.hid (pieceR_none (show pieceP s.data.toList = none by rw [HPN.out, if_pos (.inr hl)]))
          clear hl
          go_wp2_with fail
          go_ret3
          exact ⟨HF.out, HB2.out⟩
        · have hl1 : ¬ (R.size : Int) < n := by rw [HRZ.out]; exact hl
          have hlb : decide ((R.size : Int) < n) = false := decide_eq_false hl1
          have hl2 : n ≤ (R.size : Int) := by omega
          have HF := Lib.hid (show PieceR s.data.toList (.returned (.tuple #[.string (R.extract 0 n.toNat), .string (R.extract n.toNat R.size), .bool true])) from
            pieceR_some (by rw [HPN.out, if_neg (by omega)]) (ba_eq (by rw [Lib.extract_data, HRD.out]; simp)) (ba_eq (by rw [Lib.extract_to_end, HRD.out])))
          clear hl
          go_wp2_with fail
          go_quiet (fail)
          go_wp2_with fail
          go_ret3
          exact ⟨HF.out, below_drewN HB2.out _⟩
  | range =>
    rw [ha] at he
    simp only at he
    obtain ⟨v, N, rfl⟩ := he
    have HF := Lib.hid (pieceR_none (show pieceP s.data.toList = none by rw [HP.out, ha]; cases ok <;> rfl))
    clear ha
    cases ok
    all_goals
      go_wp2_with fail
      go_ret3
      exact ⟨HF.out, HB2.out⟩
  | _ =>
    rw [ha] at he
    simp only at he
    obtain ⟨v, N, rfl⟩ := he
    have HF := Lib.hid (pieceR_none (show pieceP s.data.toList = none by rw [HP.out, ha]; cases ok <;> rfl))
    clear ha
    cases ok
    all_goals
      go_wp2_with fail
      go_ret3
      exact ⟨HF.out, HB2.out⟩
end Go.Proofs.YtdpigfcnphklgaaDoor
