/- piece: the document's walk. -/
import Derived.Test.YtdpigfcnphklgaaDoorLk3
import Derived.Test.YtdpigfcnphklgaaDoorLk4
namespace Go.Proofs.YtdpigfcnphklgaaDoor
open Go Go.RowKit
set_option linter.unusedVariables false
set_option linter.unusedSimpArgs false
set_option maxRecDepth 100000
theorem digit_digI (c : UInt8) : digitB (c.toNat : Int) = digI c := by
  unfold digitB digI
  congr 1
  · rw [decide_eq_decide]; omega
  · rw [decide_eq_decide]; omega
theorem PB_len (t : List UInt8) : (PB t).length = (Lib.decDigits t.length).length + 1 + t.length := by unfold PB; rw [List.length_append, List.length_cons]; omega
theorem stop_len {l t r : List UInt8} {i : Nat} (hl : l = PB t ++ r) (ht : t.length < 10000) (hd : ∀ j, j < i → digI (l.getD j 0) = true) (hi : i ≤ l.length) (h4 : i ≤ 4) (hs : i = l.length ∨ digI (l.getD i 0) = false ∨ i = 4) :
    i = (Lib.decDigits t.length).length ∧ l.getD i 0 = 58 ∧ l.take i = Lib.decDigits t.length ∧ i < l.length ∧ t.length ≤ l.length - i - 1 := by
  obtain ⟨D, hD⟩ : ∃ D, D = Lib.decDigits t.length := ⟨_, rfl⟩
  have hDl : D.length ≤ 4 := by rw [hD]; exact dec_len_le _ ht
  have hDd : ∀ b ∈ D, digI b = true := by rw [hD]; exact dec_digits _
  have hl2 : l = D ++ 58 :: (t ++ r) := by rw [hl, hD]; unfold PB; simp
  have hll : l.length = D.length + 1 + t.length + r.length := by rw [hl2]; simp; omega
  have g58 : l.getD D.length 0 = 58 := by
    rw [hl2, List.getD_eq_getElem?_getD, List.getElem?_append_right (Nat.le_refl _)]
    simp
  have he : i = D.length := by
    rcases Nat.lt_trichotomy i D.length with h | h | h
    · exfalso
      have hg : digI (l.getD i 0) = true := by
        rw [hl2, List.getD_eq_getElem?_getD, List.getElem?_append_left h, List.getElem?_eq_getElem h]
        exact hDd _ (List.getElem_mem h)
      rcases hs with hs | hs | hs
      · omega
      · rw [hg] at hs; cases hs
      · omega
    · exact h
    · exfalso
      have := hd D.length h
      rw [g58] at this
      exact absurd this (by decide)
  rw [← hD]
  subst he
  exact ⟨rfl, g58, by rw [hl2]; exact List.take_left, by omega, by omega⟩
theorem PB_of {l : List UInt8} {i n : Nat} (h1 : l.take i = Lib.decDigits n) (h2 : l.getD i 0 = 58) (h3 : i < l.length) (h4 : n ≤ l.length - i - 1) : l = PB ((l.drop (i + 1)).take n) ++ l.drop (i + 1 + n) ∧ (PB ((l.drop (i + 1)).take n)).length = i + 1 + n := by
  have hn : ((l.drop (i + 1)).take n).length = n := by rw [List.length_take, List.length_drop]; omega
  have hi : (Lib.decDigits n).length = i := by rw [← h1, List.length_take]; omega
  constructor
  · have e1 : l = l.take i ++ l.drop i := (List.take_append_drop _ _).symm
    have e2 : l.drop i = 58 :: l.drop (i + 1) := by
      rw [List.drop_eq_getElem_cons h3]
      congr 1
      rw [← h2, List.getD_eq_getElem?_getD, List.getElem?_eq_getElem h3]; rfl
    have e3 : l.drop (i + 1) = (l.drop (i + 1)).take n ++ l.drop (i + 1 + n) := by
      have h := (List.take_append_drop n (l.drop (i + 1))).symm
      rw [List.drop_drop] at h
      exact h
    unfold PB
    rw [hn]
    calc l = l.take i ++ l.drop i := e1
      _ = Lib.decDigits n ++ 58 :: l.drop (i + 1) := by rw [h1, e2]
      _ = (Lib.decDigits n ++ 58 :: (l.drop (i + 1)).take n) ++ l.drop (i + 1 + n) := by
        conv => lhs; rw [e3]
        simp
  · rw [PB_len, hn, hi]
def RPieceR (l : List UInt8) (e : Ending) : Prop :=
  (∃ t r, l = PB t ++ r ∧ e = .returned (.tuple #[.string ⟨t.toArray⟩, .int .i64 ((PB t).length : Int)])) ∨
  ((∀ t r, t.length < 10000 → l ≠ PB t ++ r) ∧ e = .returned (.tuple #[.string ⟨#[]⟩, .int .i64 (-1)]))
theorem take_snoc' (s : ByteArray) (k : Nat) (h : k < s.size) : s.data.toList.take (k + 1) = s.data.toList.take k ++ [s[k]] := by
  rw [List.take_succ_eq_append_getElem (by simpa using h)]; rfl
theorem getD_at' (s : ByteArray) (i : Nat) (h : i < s.size) : s.data.toList.getD i 0 = s[i] := by
  rw [List.getD_eq_getElem?_getD, List.getElem?_eq_getElem (by simpa using h)]
  rfl
/-- The number so far. -/
def NumSo (l : List UInt8) (i n : Nat) : Prop := Lib.decFrom 0 (l.take i) = some n ∧ (∀ j, j < i → digI (l.getD j 0) = true) ∧ n < 10 ^ i
theorem numSo_step {s : ByteArray} {i n : Nat} (h : NumSo s.data.toList i n) (hi : i < s.size) (hd : digI s[i] = true) : NumSo s.data.toList (i + 1) (10 * n + (s[i].toNat - 48)) := by
  obtain ⟨h1, h2, h3⟩ := h
  have hdd := hd
  unfold digI at hdd
  simp only [Bool.and_eq_true, decide_eq_true_eq] at hdd
  refine ⟨?_, fun j hj => ?_, ?_⟩
  · rw [take_snoc' s i hi, decFrom_app, h1]
    simp only [Option.bind_some, Lib.decFrom, Lib.digitVal, if_pos hdd]
    congr 1
    omega
  · by_cases hji : j = i
    · subst hji; rw [getD_at' s j hi]; exact hd
    · exact h2 j (by omega)
  · rw [Nat.pow_succ]; omega
theorem pow4 {i n : Nat} (h : n < 10 ^ i) (hi : i ≤ 4) : n < 10000 := Nat.lt_of_lt_of_le h (Nat.pow_le_pow_right (by omega) hi)

set_option maxHeartbeats 8000000 in
theorem rpiece_any (s : ByteArray) (w : World) (hs : s.size ≤ 1000000) :
    Calls Tryd.prog 84 #[.string s] w fun e w' => RPieceR s.data.toList e ∧ Below w.heap.size w w' := by
  have hl : s.data.toList.length = s.size := by simp
  have HL := Lib.hid hl
  clear hl
  go_enter Tryd.func84, Tryd.ntmps84
  go_wp2_with fail
  go_loopw [4, 5] (fun nv iv wr => ∃ (i n : Nat), iv = .int .i64 i ∧ nv = .int .i64 n ∧ i ≤ s.size ∧ i ≤ 4 ∧ n < 10000 ∧ Hid (NumSo s.data.toList i n) ∧ wr = w) (fun _ iv _ => 4 - (intOf iv).toNat)
  case atStart => exact ⟨0, 0, rfl, rfl, Nat.zero_le _, Nat.zero_le _, by omega, ⟨rfl, fun j hj => absurd hj (Nat.not_lt_zero _), by decide⟩, rfl⟩
  case round =>
    obtain ⟨i, n, rfl, rfl, hi, hi4, hn, HN, rfl⟩ := hrel
    have h00 : (0 : Int) ≤ (i : Int) := by omega
    have h01 : (0 : Int) ≤ (n : Int) := by omega
    by_cases hgo : ∃ h : i < s.size, digI s[i] = true ∧ i < 4
    · obtain ⟨hlt, hd, h4⟩ := hgo
      have hltz : (i : Int) < (s.size : Int) := by omega
      have hltb : decide ((i : Int) < (s.size : Int)) = true := decide_eq_true hltz
      have h4z : (i : Int) < 4 := by omega
      have h4b : decide ((i : Int) < 4) = true := decide_eq_true h4z
      have hdd := hd
      unfold digI at hdd
      simp only [Bool.and_eq_true, decide_eq_true_eq] at hdd
      have HST := Lib.hid (numSo_step HN.out hlt hd)
      have HNN := Lib.hid (pow4 (HST.out.2.2) (by omega))
      obtain ⟨ci, hci⟩ : ∃ ci : Int, (s[i].toNat : Int) = ci := ⟨_, rfl⟩
      have hc1 : 48 ≤ ci := by omega
      have hc2 : ci ≤ 57 := by omega
      have HCI := Lib.hid hci
      have HDB := Lib.hid (show digitB ci = true by rw [← hci, digit_digI]; exact hd)
      clear hd hdd
      go_wp2_with fail
      refine (rdigit_any _ _).mono ?_
      rw [HDB.out]
      rintro e w2 ⟨rfl, rfl⟩
      go_wp2_with fail
      go_roundw
      case rel => exact ⟨i + 1, 10 * n + (s[i].toNat - 48), by go_num, by have := HCI.out; congr 1; omega, by omega, by omega, HNN.out, HST.out, by trivial⟩
      case measure => simp [intOf]; omega
    · have hstop : i = s.data.toList.length ∨ digI (s.data.toList.getD i 0) = false ∨ i = 4 := by
        rw [HL.out]
        by_cases h1 : i < s.size
        · by_cases h2 : digI s[i] = true
          · exact .inr (.inr (by
              by_cases h3 : i < 4
              · exact absurd ⟨h1, h2, h3⟩ hgo
              · omega))
          · exact .inr (.inl (by rw [getD_at' s i h1]; simpa using h2))
        · exact .inl (by omega)
      have HNO := Lib.hid (show ∀ t r, t.length < 10000 → s.data.toList = PB t ++ r → s.data.toList.getD i 0 = 58 ∧ s.data.toList.take i = Lib.decDigits t.length ∧ i < s.size ∧ t.length ≤ s.size - i - 1 ∧ t.length = n from fun t r ht he => by
        obtain ⟨a1, a2, a3, a4, a5⟩ := stop_len he ht HN.out.2.1 (by rw [HL.out]; exact hi) hi4 hstop
        rw [HL.out] at a4 a5
        refine ⟨a2, a3, a4, a5, ?_⟩
        have h1 := HN.out.1
        rw [a3, decFrom_dec] at h1
        exact Option.some.inj h1)
      by_cases hlt : i < s.size
      · have hltz : (i : Int) < (s.size : Int) := by omega
        have hltb : decide ((i : Int) < (s.size : Int)) = true := decide_eq_true hltz
        have hgeb : decide ((s.size : Int) ≤ (i : Int)) = false := decide_eq_false (by omega)
        have hgeN : decide (s.size ≤ i) = false := decide_eq_false (by omega)
        obtain ⟨ci, hci⟩ : ∃ ci : Int, (s[i].toNat : Int) = ci := ⟨_, rfl⟩
        have hgd := getD_at' s i hlt
        have HDB : ∃ db, digitB ci = db := ⟨_, rfl⟩
        obtain ⟨db, hdb⟩ := HDB
        have hdstop : db = true → ¬ i < 4 := fun e h4 => hgo ⟨hlt, by rw [← digit_digI, hci, hdb]; exact e, h4⟩
        have HDBB := Lib.hid hdb
        by_cases h58 : ci = 58
        · have h58a : (ci == 58) = true := by simpa using h58
          have h58b : (ci != 58) = false := by rw [h58]; rfl
          have hc58 : s[i] = 58 := UInt8.toNat_inj.1 (by show s[i].toNat = 58; omega)
          have hdbf : db = false := by rw [← hdb, h58]; rfl
          obtain ⟨D, hD⟩ : ∃ D, D = itoaB (n : Int) := ⟨_, rfl⟩
          have HDX := Lib.hid (fun w => by have := rdec_S n w (by omega); rw [← hD] at this; exact this)
          have hDd : D.data.toList = Lib.decDigits n := by rw [hD]; unfold itoaB; rw [Lib.itoa_nonneg]
          have hxd : (s.extract 0 i).data.toList = s.data.toList.take i := by rw [Lib.extract_data]; simp
          by_cases heq : s.data.toList.take i = Lib.decDigits n
          · have hDE : D = s.extract 0 i := ba_eq (by rw [hDd, hxd, heq])
            have hb1 : (D.toList == (s.extract 0 i).toList) = true := by rw [hDE]; simp
            have hb2 : (!(D.toList == (s.extract 0 i).toList)) = false := by rw [hb1]; rfl
            by_cases hnl : s.size - i - 1 < n
            · have hnz : (s.size : Int) - (i : Int) - 1 < (n : Int) := by omega
              have hnb : decide ((s.size : Int) - (i : Int) - 1 < (n : Int)) = true := decide_eq_true hnz
              have HF := Lib.hid (show ∀ t r, t.length < 10000 → s.data.toList ≠ PB t ++ r from fun t r ht he => by
                obtain ⟨-, -, -, a, b⟩ := HNO.out t r ht he
                omega)
              have hw1 : IntKind.i64.wrap ((s.size : Int) - (i : Int)) = (s.size : Int) - (i : Int) := by rw [IntKind.wrap_i64]; omega
              have hw2 : IntKind.i64.wrap ((s.size : Int) - (i : Int) - 1) = (s.size : Int) - (i : Int) - 1 := by rw [IntKind.wrap_i64]; omega
              subst hdbf
              clear hgd hdstop hc58 hD hDd hxd heq hDE hgo hstop hdb h58
              go_wp2_with fail
              refine (rdigit_any _ _).mono ?_
              rw [HDBB.out]
              rintro e w2 ⟨rfl, rfl⟩
              go_wp2_with fail
              go_region_held3 (fun w' => True) (trivial)
                (first
                | (go_at_call 88
                   (with_reducible refine (HDX.out _).mono ?_)
                   rintro e wA ⟨rfl, hb9⟩
                   have hbA : Below w2.heap.size w2 wA := bthen2 (by go_grown) hb9))
              all_goals
                go_wp2_with fail
                go_ret2
                exact ⟨.inr ⟨HF.out, rfl⟩, hbA⟩
            · have hnz : ¬ (s.size : Int) - (i : Int) - 1 < (n : Int) := by omega
              have hnb : decide ((s.size : Int) - (i : Int) - 1 < (n : Int)) = false := decide_eq_false hnz
              have hPB := PB_of heq (by rw [hgd, hc58]) (by rw [HL.out]; exact hlt) (by rw [HL.out]; omega)
              have HF := Lib.hid (show RPieceR s.data.toList (.returned (.tuple #[.string (s.extract (i + 1) (i + 1 + n)), .int .i64 ((i : Int) + 1 + (n : Int))])) from
                .inl ⟨_, _, hPB.1, by
                  rw [hPB.2]
                  have h1 : s.extract (i + 1) (i + 1 + n) = ⟨((s.data.toList.drop (i + 1)).take n).toArray⟩ := ba_eq (by
                    rw [Lib.extract_data]
                    simp)
                  rw [h1]
                  simp⟩)
              have hw1 : IntKind.i64.wrap ((s.size : Int) - (i : Int)) = (s.size : Int) - (i : Int) := by rw [IntKind.wrap_i64]; omega
              have hw2 : IntKind.i64.wrap ((s.size : Int) - (i : Int) - 1) = (s.size : Int) - (i : Int) - 1 := by rw [IntKind.wrap_i64]; omega
              subst hdbf
              clear hgd hdstop hc58 hD hDd hxd heq hDE hgo hstop hdb h58 hPB
              go_wp2_with fail
              refine (rdigit_any _ _).mono ?_
              rw [HDBB.out]
              rintro e w2 ⟨rfl, rfl⟩
              go_wp2_with fail
              go_region_held3 (fun w' => True) (trivial)
                (first
                | (go_at_call 88
                   (with_reducible refine (HDX.out _).mono ?_)
                   rintro e wA ⟨rfl, hb9⟩
                   have hbA : Below w2.heap.size w2 wA := bthen2 (by go_grown) hb9))
              all_goals
                go_wp2_with fail
                go_ret2
                exact ⟨HF.out, hbA⟩
          · have hb1 : (D.toList == (s.extract 0 i).toList) = false := by
              rw [beq_cmp]
              exact decide_eq_false fun h => heq (by rw [← hxd, ← (cmpS_eq _ _).1 h, hDd])
            have hb2 : (!(D.toList == (s.extract 0 i).toList)) = true := by rw [hb1]; rfl
            have hb3 : (D.toList != (s.extract 0 i).toList) = true := hb2
            have hb4 : ¬ D.toList = (s.extract 0 i).toList := by simpa using hb1
            have hb5 : (!decide (D.toList = (s.extract 0 i).toList)) = true := by simpa using hb4
            have hb6 : decide (D.toList = (s.extract 0 i).toList) = false := decide_eq_false hb4
            have HF := Lib.hid (show ∀ t r, t.length < 10000 → s.data.toList ≠ PB t ++ r from fun t r ht he => by
              obtain ⟨-, a, -, -, b⟩ := HNO.out t r ht he
              rw [b] at a
              exact heq a)
            subst hdbf
            clear hgd hdstop hc58 hD hDd hxd heq hgo hstop hdb h58
            go_wp2_with fail
            refine (rdigit_any _ _).mono ?_
            rw [HDBB.out]
            rintro e w2 ⟨rfl, rfl⟩
            go_wp2_with fail
            refine wp_region_held_drew (S := fun w' => True) (by kernel_rfl) trivial (fun hHeld => ?_)
            refine wpAnyH_take (i := 0) (oi := ?oi0) (v := ?vv0) ?hh0 (by kernel_rfl) (by kernel_rfl) (by kernel_rfl) ?qq0 (Or.inl ⟨?wd0, ?yy0⟩) trivial ?rest0
            case hh0 => simp only [List.getElem?_toArray, List.getElem?_cons_succ, List.getElem?_cons_zero]; try rfl
            case qq0 => exact fun _ _ _ h => h
            case wd0 => rfl
            case yy0 => (intro w hSw; go_simp; try with_reducible rfl)
            try simp only [Act.put, List.setIfInBounds_toArray, List.set_cons_zero, List.set_cons_succ]
            refine wpAnyH_take (i := 1) (oi := ?oi1) (v := ?vv1) ?hh1 (by kernel_rfl) (by kernel_rfl) (by kernel_rfl) ?qq1 (Or.inl ⟨?wd1, ?yy1⟩) trivial ?rest1
            case hh1 => simp only [List.getElem?_toArray, List.getElem?_cons_succ, List.getElem?_cons_zero]; try rfl
            case qq1 => exact fun _ _ _ h => h
            case wd1 => rfl
            case yy1 => (intro w hSw; go_simp; try with_reducible rfl)
            try simp only [Act.put, List.setIfInBounds_toArray, List.set_cons_zero, List.set_cons_succ]
            refine wpAnyH_take (i := 2) (oi := ?oi2) (v := ?vv2) ?hh2 (by kernel_rfl) (by kernel_rfl) (by kernel_rfl) ?qq2 (Or.inl ⟨?wd2, ?yy2⟩) trivial ?rest2
            case hh2 => simp only [List.getElem?_toArray, List.getElem?_cons_succ, List.getElem?_cons_zero]; try rfl
            case qq2 => exact fun _ _ _ h => h
            case wd2 => rfl
            case yy2 => (intro w hSw; go_simp; try with_reducible rfl)
            try simp only [Act.put, List.setIfInBounds_toArray, List.set_cons_zero, List.set_cons_succ]
            refine wpAnyH_take (i := 3) (oi := ?oi3) (v := ?vv3) ?hh3 (by kernel_rfl) (by kernel_rfl) (by kernel_rfl) ?qq3 (Or.inl ⟨?wd3, ?yy3⟩) trivial ?rest3
            case hh3 => simp only [List.getElem?_toArray, List.getElem?_cons_succ, List.getElem?_cons_zero]; try rfl
            case qq3 => exact fun _ _ _ h => h
            case wd3 => rfl
            case yy3 => (intro w hSw; go_simp; try with_reducible rfl)
            try simp only [Act.put, List.setIfInBounds_toArray, List.set_cons_zero, List.set_cons_succ]
            refine wpAnyH_take (i := 4) (oi := ?oi4) (v := ?vv4) ?hh4 (by kernel_rfl) (by kernel_rfl) (by kernel_rfl) ?qq4 (Or.inl ⟨?wd4, ?yy4⟩) trivial ?rest4
            case hh4 => simp only [List.getElem?_toArray, List.getElem?_cons_succ, List.getElem?_cons_zero]; try rfl
            case qq4 => exact fun _ _ _ h => h
            case wd4 => rfl
            case yy4 => (intro w hSw; go_simp; try with_reducible rfl)
            try simp only [Act.put, List.setIfInBounds_toArray, List.set_cons_zero, List.set_cons_succ]
            refine wpAnyH_take (i := 5) (oi := ?oi5) (v := ?vv5) ?hh5 (by kernel_rfl) (by kernel_rfl) (by kernel_rfl) ?qq5 (Or.inl ⟨?wd5, ?yy5⟩) trivial ?rest5
            case hh5 => simp only [List.getElem?_toArray, List.getElem?_cons_succ, List.getElem?_cons_zero]; try rfl
            case qq5 => exact fun _ _ _ h => h
            case wd5 => rfl
            case yy5 => (intro w hSw; go_simp; try with_reducible rfl)
            try simp only [Act.put, List.setIfInBounds_toArray, List.set_cons_zero, List.set_cons_succ]
            refine wpAnyH_take (i := 6) (oi := ?oi6) (v := ?vv6) ?hh6 (by kernel_rfl) (by kernel_rfl) (by kernel_rfl) ?qq6 (Or.inl ⟨?wd6, ?yy6⟩) trivial ?rest6
            case hh6 => simp only [List.getElem?_toArray, List.getElem?_cons_succ, List.getElem?_cons_zero]; try rfl
            case qq6 => exact fun _ _ _ h => h
            case wd6 => rfl
            case yy6 => (intro w hSw; go_simp; try with_reducible rfl)
            try simp only [Act.put, List.setIfInBounds_toArray, List.set_cons_zero, List.set_cons_succ]
            refine wpAnyH_take (i := 7) (oi := ?oi7) (v := ?vv7) ?hh7 (by kernel_rfl) (by kernel_rfl) (by kernel_rfl) ?qq7 (Or.inl ⟨?wd7, ?yy7⟩) trivial ?rest7
            case hh7 => simp only [List.getElem?_toArray, List.getElem?_cons_succ, List.getElem?_cons_zero]; try rfl
            case qq7 => exact fun _ _ _ h => h
            case wd7 => rfl
            case yy7 => (intro w hSw; go_simp; try with_reducible rfl)
            try simp only [Act.put, List.setIfInBounds_toArray, List.set_cons_zero, List.set_cons_succ]
            refine wpAnyH_take (i := 8) (oi := ?oi8) (v := ?vv8) ?hh8 (by kernel_rfl) (by kernel_rfl) (by kernel_rfl) ?qq8 (Or.inl ⟨?wd8, ?yy8⟩) trivial ?rest8
            case hh8 => simp only [List.getElem?_toArray, List.getElem?_cons_succ, List.getElem?_cons_zero]; try rfl
            case qq8 => exact fun _ _ _ h => h
            case wd8 => rfl
            case yy8 => (intro w hSw; go_simp; try with_reducible rfl)
            try simp only [Act.put, List.setIfInBounds_toArray, List.set_cons_zero, List.set_cons_succ]
            refine wpAnyH_take (i := 9) (oi := ?oi9) (v := ?vv9) ?hh9 (by kernel_rfl) (by kernel_rfl) (by kernel_rfl) ?qq9 (Or.inl ⟨?wd9, ?yy9⟩) trivial ?rest9
            case hh9 => simp only [List.getElem?_toArray, List.getElem?_cons_succ, List.getElem?_cons_zero]; try rfl
            case qq9 => exact fun _ _ _ h => h
            case wd9 => rfl
            case yy9 => (intro w hSw; go_simp; try with_reducible rfl)
            try simp only [Act.put, List.setIfInBounds_toArray, List.set_cons_zero, List.set_cons_succ]
            refine wpAnyH_take (i := 10) (oi := ?oi10) (v := ?vv10) ?hh10 (by kernel_rfl) (by kernel_rfl) (by kernel_rfl) ?qq10 (Or.inl ⟨?wd10, ?yy10⟩) trivial ?rest10
            case hh10 => simp only [List.getElem?_toArray, List.getElem?_cons_succ, List.getElem?_cons_zero]; try rfl
            case qq10 => exact fun _ _ _ h => h
            case wd10 => rfl
            case yy10 => (intro w hSw; go_simp; try with_reducible rfl)
            try simp only [Act.put, List.setIfInBounds_toArray, List.set_cons_zero, List.set_cons_succ]
            refine wpAnyH_take (i := 11) (oi := ?oi11) (v := ?vv11) ?hh11 (by kernel_rfl) (by kernel_rfl) (by kernel_rfl) ?qq11 (Or.inl ⟨?wd11, ?yy11⟩) trivial ?rest11
            case hh11 => simp only [List.getElem?_toArray, List.getElem?_cons_succ, List.getElem?_cons_zero]; try rfl
            case qq11 => exact fun _ _ _ h => h
            case wd11 => rfl
            case yy11 => (intro w hSw; go_simp; try with_reducible rfl)
            try simp only [Act.put, List.setIfInBounds_toArray, List.set_cons_zero, List.set_cons_succ]
            refine wpAnyH_take (i := 13) (oi := ?oi13) (v := ?vv13) ?hh13 (by kernel_rfl) (by kernel_rfl) (by kernel_rfl) ?qq13 (Or.inl ⟨?wd13, ?yy13⟩) trivial ?rest13
            case hh13 => simp only [List.getElem?_toArray, List.getElem?_cons_succ, List.getElem?_cons_zero]; try rfl
            case qq13 => exact fun _ _ _ h => h
            case wd13 => rfl
            case yy13 => (intro w hSw; go_simp; try with_reducible rfl)
            try simp only [Act.put, List.setIfInBounds_toArray, List.set_cons_zero, List.set_cons_succ]
            refine wpAnyH_take (i := 14) (oi := ?oi14) (v := ?vv14) ?hh14 (by kernel_rfl) (by kernel_rfl) (by kernel_rfl) ?qq14 (Or.inl ⟨?wd14, ?yy14⟩) trivial ?rest14
            case hh14 => simp only [List.getElem?_toArray, List.getElem?_cons_succ, List.getElem?_cons_zero]; try rfl
            case qq14 => exact fun _ _ _ h => h
            case wd14 => rfl
            case yy14 => (intro w hSw; go_simp; try with_reducible rfl)
            try simp only [Act.put, List.setIfInBounds_toArray, List.set_cons_zero, List.set_cons_succ]
            refine wpAnyH_take (i := 15) (oi := ?oi15) (v := ?vv15) ?hh15 (by kernel_rfl) (by kernel_rfl) (by kernel_rfl) ?qq15 (Or.inl ⟨?wd15, ?yy15⟩) trivial ?rest15
            case hh15 => simp only [List.getElem?_toArray, List.getElem?_cons_succ, List.getElem?_cons_zero]; try rfl
            case qq15 => exact fun _ _ _ h => h
            case wd15 => rfl
            case yy15 => (intro w hSw; go_simp; try with_reducible rfl)
            try simp only [Act.put, List.setIfInBounds_toArray, List.set_cons_zero, List.set_cons_succ]
            refine wpAnyH_ready (rs := [12]) (by kernel_rfl) (by simp) ?_
            refine AllReadyH.cons (o := ?oi12) ?hh12 (fun K hK => ?more12) AllReadyH.nil
            case hh12 => simp only [List.getElem?_toArray, List.getElem?_cons_succ, List.getElem?_cons_zero]; try rfl
            go_simp
            go_at_call 88
            with_reducible refine (HDX.out _).mono ?_
            rintro e wA ⟨rfl, hb9⟩
            have hbA : Below w2.heap.size w2 wA := bthen2 (by go_grown) hb9
            go_wp2_with fail
            refine hK.out _ _ trivial (fun hHeld => ?_)
            clear hK K
            try simp only [Act.put, List.setIfInBounds_toArray, List.set_cons_zero, List.set_cons_succ]
            refine wpAnyH_take (i := 16) (oi := ?oi16) (v := ?vv16) ?hh16 (by kernel_rfl) (by kernel_rfl) (by kernel_rfl) ?qq16 (Or.inl ⟨?wd16, ?yy16⟩) trivial ?rest16
            case hh16 => simp only [List.getElem?_toArray, List.getElem?_cons_succ, List.getElem?_cons_zero]; try rfl
            case qq16 => exact fun _ _ _ h => h
            case wd16 => rfl
            case yy16 => (intro w hSw; go_simp; try with_reducible rfl)
            try simp only [Act.put, List.setIfInBounds_toArray, List.set_cons_zero, List.set_cons_succ]
            refine wpAnyH_take (i := 17) (oi := ?oi17) (v := ?vv17) ?hh17 (by kernel_rfl) (by kernel_rfl) (by kernel_rfl) ?qq17 (Or.inl ⟨?wd17, ?yy17⟩) trivial ?rest17
            case hh17 => simp only [List.getElem?_toArray, List.getElem?_cons_succ, List.getElem?_cons_zero]; try rfl
            case qq17 => exact fun _ _ _ h => h
            case wd17 => rfl
            case yy17 => (intro w hSw; go_simp; try with_reducible rfl)
            try simp only [Act.put, List.setIfInBounds_toArray, List.set_cons_zero, List.set_cons_succ]
            refine wpAnyH_take (i := 18) (oi := ?oi18) (v := ?vv18) ?hh18 (by kernel_rfl) (by kernel_rfl) (by kernel_rfl) ?qq18 (Or.inl ⟨?wd18, ?yy18⟩) trivial ?rest18
            case hh18 => simp only [List.getElem?_toArray, List.getElem?_cons_succ, List.getElem?_cons_zero]; try rfl
            case qq18 => exact fun _ _ _ h => h
            case wd18 => rfl
            case yy18 => (intro w hSw; go_simp; try with_reducible rfl)
            try simp only [Act.put, List.setIfInBounds_toArray, List.set_cons_zero, List.set_cons_succ]
            refine wpAnyH_take (i := 19) (oi := ?oi19) (v := undef) ?hh19 (by kernel_rfl) (by kernel_rfl) (by kernel_rfl) ?qq19 (Or.inr ⟨?wd19, rfl⟩) trivial ?rest19
            case hh19 => simp only [List.getElem?_toArray, List.getElem?_cons_succ, List.getElem?_cons_zero]; try rfl
            case qq19 => exact fun _ _ _ h => h
            case wd19 => rfl
            try simp only [Act.put, List.setIfInBounds_toArray, List.set_cons_zero, List.set_cons_succ]
            refine wpAnyH_take (i := 20) (oi := ?oi20) (v := undef) ?hh20 (by kernel_rfl) (by kernel_rfl) (by kernel_rfl) ?qq20 (Or.inr ⟨?wd20, rfl⟩) trivial ?rest20
            case hh20 => simp only [List.getElem?_toArray, List.getElem?_cons_succ, List.getElem?_cons_zero]; try rfl
            case qq20 => exact fun _ _ _ h => h
            case wd20 => rfl
            try simp only [Act.put, List.setIfInBounds_toArray, List.set_cons_zero, List.set_cons_succ]
            refine wpAnyH_take (i := 21) (oi := ?oi21) (v := undef) ?hh21 (by kernel_rfl) (by kernel_rfl) (by kernel_rfl) ?qq21 (Or.inr ⟨?wd21, rfl⟩) trivial ?rest21
            case hh21 => simp only [List.getElem?_toArray, List.getElem?_cons_succ, List.getElem?_cons_zero]; try rfl
            case qq21 => exact fun _ _ _ h => h
            case wd21 => rfl
            try simp only [Act.put, List.setIfInBounds_toArray, List.set_cons_zero, List.set_cons_succ]
            refine wpAnyH_take (i := 22) (oi := ?oi22) (v := undef) ?hh22 (by kernel_rfl) (by kernel_rfl) (by kernel_rfl) ?qq22 (Or.inr ⟨?wd22, rfl⟩) trivial ?rest22
            case hh22 => simp only [List.getElem?_toArray, List.getElem?_cons_succ, List.getElem?_cons_zero]; try rfl
            case qq22 => exact fun _ _ _ h => h
            case wd22 => rfl
            try simp only [Act.put, List.setIfInBounds_toArray, List.set_cons_zero, List.set_cons_succ]
            refine wpAnyH_take (i := 23) (oi := ?oi23) (v := undef) ?hh23 (by kernel_rfl) (by kernel_rfl) (by kernel_rfl) ?qq23 (Or.inr ⟨?wd23, rfl⟩) trivial ?rest23
            case hh23 => simp only [List.getElem?_toArray, List.getElem?_cons_succ, List.getElem?_cons_zero]; try rfl
            case qq23 => exact fun _ _ _ h => h
            case wd23 => rfl
            try simp only [Act.put, List.setIfInBounds_toArray, List.set_cons_zero, List.set_cons_succ]
            refine wpAnyH_take (i := 24) (oi := ?oi24) (v := undef) ?hh24 (by kernel_rfl) (by kernel_rfl) (by kernel_rfl) ?qq24 (Or.inr ⟨?wd24, rfl⟩) trivial ?rest24
            case hh24 => simp only [List.getElem?_toArray, List.getElem?_cons_succ, List.getElem?_cons_zero]; try rfl
            case qq24 => exact fun _ _ _ h => h
            case wd24 => rfl
            try simp only [Act.put, List.setIfInBounds_toArray, List.set_cons_zero, List.set_cons_succ]
            refine wpAnyH_take (i := 25) (oi := ?oi25) (v := undef) ?hh25 (by kernel_rfl) (by kernel_rfl) (by kernel_rfl) ?qq25 (Or.inr ⟨?wd25, rfl⟩) trivial ?rest25
            case hh25 => simp only [List.getElem?_toArray, List.getElem?_cons_succ, List.getElem?_cons_zero]; try rfl
            case qq25 => exact fun _ _ _ h => h
            case wd25 => rfl
            try simp only [Act.put, List.setIfInBounds_toArray, List.set_cons_zero, List.set_cons_succ]
            refine wpAnyH_take (i := 26) (oi := ?oi26) (v := ?vv26) ?hh26 (by kernel_rfl) (by kernel_rfl) (by kernel_rfl) ?qq26 (Or.inl ⟨?wd26, ?yy26⟩) trivial ?rest26
            case hh26 => simp only [List.getElem?_toArray, List.getElem?_cons_succ, List.getElem?_cons_zero]; try rfl
            case qq26 => exact fun _ _ _ h => h
            case wd26 => rfl
            case yy26 => (intro w hSw; go_simp; try with_reducible rfl)
            try simp only [Act.put, List.setIfInBounds_toArray, List.set_cons_zero, List.set_cons_succ]
            refine wpAnyH_done (by kernel_rfl) ?_ _
            all_goals
              go_wp2_with fail
              go_ret2
              exact ⟨.inr ⟨HF.out, rfl⟩, hbA⟩
        · have h58a : (ci == 58) = false := by simpa using h58
          have h58b : (ci != 58) = true := by simpa using h58
          have HF := Lib.hid (show ∀ t r, t.length < 10000 → s.data.toList ≠ PB t ++ r from fun t r ht he => by
            obtain ⟨a, -⟩ := HNO.out t r ht he
            rw [hgd] at a
            rw [a] at hci
            exact h58 (by rw [← hci]; rfl))
          cases db with
          | false =>
            clear hgd hdstop hgo hstop hdb h58
            go_wp2_with fail
            refine (rdigit_any _ _).mono ?_
            rw [HDBB.out]
            rintro e w2 ⟨rfl, rfl⟩
            go_wp2_with fail
            go_quiet (fail)
            all_goals
              go_wp2_with fail
              go_ret2
              exact ⟨.inr ⟨HF.out, rfl⟩, below_drewN (Below.refl _ _) _⟩
          | true =>
            have h4z : ¬ (i : Int) < 4 := by have := hdstop rfl; omega
            have h4b : decide ((i : Int) < 4) = false := decide_eq_false h4z
            clear hgd hdstop hgo hstop hdb h58
            go_wp2_with fail
            refine (rdigit_any _ _).mono ?_
            rw [HDBB.out]
            rintro e w2 ⟨rfl, rfl⟩
            go_wp2_with fail
            go_quiet (fail)
            all_goals
              go_wp2_with fail
              go_ret2
              exact ⟨.inr ⟨HF.out, rfl⟩, below_drewN (Below.refl _ _) _⟩
      · have hltz : ¬ (i : Int) < (s.size : Int) := by omega
        have hltb : decide ((i : Int) < (s.size : Int)) = false := decide_eq_false hltz
        have hgeb : decide ((s.size : Int) ≤ (i : Int)) = true := decide_eq_true (by omega)
        have hgeN : decide (s.size ≤ i) = true := decide_eq_true (by omega)
        have HF := Lib.hid (show ∀ t r, t.length < 10000 → s.data.toList ≠ PB t ++ r from fun t r ht he => by
          obtain ⟨-, -, a, -⟩ := HNO.out t r ht he
          exact hlt a)
        clear hgo hstop
        go_wp2_with fail
        go_quiet (fail)
        go_wp2_with fail
        go_ret2
        exact ⟨.inr ⟨HF.out, rfl⟩, below_drewN (Below.refl _ _) _⟩
end Go.Proofs.YtdpigfcnphklgaaDoor
