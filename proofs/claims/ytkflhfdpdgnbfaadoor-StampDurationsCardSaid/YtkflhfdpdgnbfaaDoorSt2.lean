/- stamp.Duration: the walk. -/
import Derived.Test.YtkflhfdpdgnbfaaDoorSt1
namespace Go.Proofs.YtkflhfdpdgnbfaaDoor
open Go Go.RowKit
set_option linter.unusedVariables false
set_option linter.unusedSimpArgs false
set_option maxRecDepth 100000

def DurJ0 (w0 : World) (R : Int × Int) (a : Act) (w : World) : Prop := w = w0 ∧ ∃ (s : ByteArray) (out last : Int) (u : Nat → Value) (k : Nat), a = { tmps := #[.string s, u 1, .int .i64 0, .int .i64 0, .int .i64 out, .int .i64 last, u 6, u 7, u 8, u 9, u 10, u 11, u 12, u 13, u 14, u 15, u 16, u 17, u 18, u 19, u 20, u 21, u 22, u 23, u 24, u 25, u 26, u 27, u 28, u 29, u 30, u 31, u 32, u 33, u 34, u 35, u 36, u 37, u 38, u 39, u 40, u 41, u 42, u 43, u 44, u 45, u 46, u 47, u 48, u 49, u 50, u 51, u 52, u 53, u 54, u 55, u 56, u 57, u 58, u 59, u 60, u 61, u 62, u 63, u 64, u 65, u 66, u 67, u 68, u 69, u 70, u 71, u 72, u 73, u 74, u 75, u 76, u 77, u 78, u 79], defers := [] } ∧ s.size < k ∧ s.size ≤ 64 ∧ 0 ≤ out ∧ out ≤ 2251799813685248 ∧ durL k s.data.toList out last = R
def DurJ1 (w0 : World) (R : Int × Int) (a : Act) (w : World) : Prop := w = w0 ∧ ∃ (s : ByteArray) (out last n : Int) (b : Bool) (u : Nat → Value) (k : Nat), a = { tmps := #[.string s, u 1, .int .i64 0, .int .i64 0, .int .i64 out, .int .i64 last, .int .i64 n, .bool b, u 8, u 9, u 10, u 11, u 12, u 13, u 14, u 15, u 16, u 17, u 18, u 19, u 20, u 21, u 22, u 23, u 24, u 25, u 26, u 27, u 28, u 29, u 30, u 31, u 32, u 33, u 34, u 35, u 36, u 37, u 38, u 39, u 40, u 41, u 42, u 43, u 44, u 45, u 46, u 47, u 48, u 49, u 50, u 51, u 52, u 53, u 54, u 55, u 56, u 57, u 58, u 59, u 60, u 61, u 62, u 63, u 64, u 65, u 66, u 67, u 68, u 69, u 70, u 71, u 72, u 73, u 74, u 75, u 76, u 77, u 78, u 79], defers := [] } ∧ s.size ≤ k ∧ s.size ≤ 64 ∧ 0 ≤ out ∧ out ≤ 2251799813685248 ∧ 0 ≤ n ∧ n ≤ 2251799813685248 ∧ durT (durL k) (digs s.data.toList n b) out last = R
theorem DurJ0.mk {w0 : World} {R : Int × Int} {A : Array Value} (s : ByteArray) (out last : Int) (k : Nat) (hA : A = #[.string s, A.getD 1 undef, .int .i64 0, .int .i64 0, .int .i64 out, .int .i64 last, A.getD 6 undef, A.getD 7 undef, A.getD 8 undef, A.getD 9 undef, A.getD 10 undef, A.getD 11 undef, A.getD 12 undef, A.getD 13 undef, A.getD 14 undef, A.getD 15 undef, A.getD 16 undef, A.getD 17 undef, A.getD 18 undef, A.getD 19 undef, A.getD 20 undef, A.getD 21 undef, A.getD 22 undef, A.getD 23 undef, A.getD 24 undef, A.getD 25 undef, A.getD 26 undef, A.getD 27 undef, A.getD 28 undef, A.getD 29 undef, A.getD 30 undef, A.getD 31 undef, A.getD 32 undef, A.getD 33 undef, A.getD 34 undef, A.getD 35 undef, A.getD 36 undef, A.getD 37 undef, A.getD 38 undef, A.getD 39 undef, A.getD 40 undef, A.getD 41 undef, A.getD 42 undef, A.getD 43 undef, A.getD 44 undef, A.getD 45 undef, A.getD 46 undef, A.getD 47 undef, A.getD 48 undef, A.getD 49 undef, A.getD 50 undef, A.getD 51 undef, A.getD 52 undef, A.getD 53 undef, A.getD 54 undef, A.getD 55 undef, A.getD 56 undef, A.getD 57 undef, A.getD 58 undef, A.getD 59 undef, A.getD 60 undef, A.getD 61 undef, A.getD 62 undef, A.getD 63 undef, A.getD 64 undef, A.getD 65 undef, A.getD 66 undef, A.getD 67 undef, A.getD 68 undef, A.getD 69 undef, A.getD 70 undef, A.getD 71 undef, A.getD 72 undef, A.getD 73 undef, A.getD 74 undef, A.getD 75 undef, A.getD 76 undef, A.getD 77 undef, A.getD 78 undef, A.getD 79 undef]) (hk : s.size < k) (h64 : s.size ≤ 64) (ho1 : 0 ≤ out) (ho2 : out ≤ 2251799813685248) (hv : durL k s.data.toList out last = R) : DurJ0 w0 R { tmps := A, defers := [] } w0 :=
  ⟨rfl, s, out, last, fun i => A.getD i undef, k, congrArg (fun t => ({ tmps := t, defers := [] } : Act)) hA, hk, h64, ho1, ho2, hv⟩
theorem DurJ1.mk {w0 : World} {R : Int × Int} {A : Array Value} (s : ByteArray) (out last n : Int) (b : Bool) (k : Nat) (hA : A = #[.string s, A.getD 1 undef, .int .i64 0, .int .i64 0, .int .i64 out, .int .i64 last, .int .i64 n, .bool b, A.getD 8 undef, A.getD 9 undef, A.getD 10 undef, A.getD 11 undef, A.getD 12 undef, A.getD 13 undef, A.getD 14 undef, A.getD 15 undef, A.getD 16 undef, A.getD 17 undef, A.getD 18 undef, A.getD 19 undef, A.getD 20 undef, A.getD 21 undef, A.getD 22 undef, A.getD 23 undef, A.getD 24 undef, A.getD 25 undef, A.getD 26 undef, A.getD 27 undef, A.getD 28 undef, A.getD 29 undef, A.getD 30 undef, A.getD 31 undef, A.getD 32 undef, A.getD 33 undef, A.getD 34 undef, A.getD 35 undef, A.getD 36 undef, A.getD 37 undef, A.getD 38 undef, A.getD 39 undef, A.getD 40 undef, A.getD 41 undef, A.getD 42 undef, A.getD 43 undef, A.getD 44 undef, A.getD 45 undef, A.getD 46 undef, A.getD 47 undef, A.getD 48 undef, A.getD 49 undef, A.getD 50 undef, A.getD 51 undef, A.getD 52 undef, A.getD 53 undef, A.getD 54 undef, A.getD 55 undef, A.getD 56 undef, A.getD 57 undef, A.getD 58 undef, A.getD 59 undef, A.getD 60 undef, A.getD 61 undef, A.getD 62 undef, A.getD 63 undef, A.getD 64 undef, A.getD 65 undef, A.getD 66 undef, A.getD 67 undef, A.getD 68 undef, A.getD 69 undef, A.getD 70 undef, A.getD 71 undef, A.getD 72 undef, A.getD 73 undef, A.getD 74 undef, A.getD 75 undef, A.getD 76 undef, A.getD 77 undef, A.getD 78 undef, A.getD 79 undef]) (hk : s.size ≤ k) (h64 : s.size ≤ 64) (ho1 : 0 ≤ out) (ho2 : out ≤ 2251799813685248) (hn1 : 0 ≤ n) (hn2 : n ≤ 2251799813685248) (hv : durT (durL k) (digs s.data.toList n b) out last = R) : DurJ1 w0 R { tmps := A, defers := [] } w0 :=
  ⟨rfl, s, out, last, n, b, fun i => A.getD i undef, k, congrArg (fun t => ({ tmps := t, defers := [] } : Act)) hA, hk, h64, ho1, ho2, hn1, hn2, hv⟩
def lenS (a : Act) : Nat := match a.tmps.getD 0 undef with | .string s => s.size | _ => 0
theorem cons_data {s : ByteArray} (h : 0 < s.size) : s.data.toList = s[0] :: (s.extract 1 s.size).data.toList := by
  rw [Lib.extract_to_end]; exact head_data h
theorem data_nil {s : ByteArray} (h : s.size = 0) : s.data.toList = [] := by
  apply List.eq_nil_of_length_eq_zero; simpa using h
theorem nil_data {s : ByteArray} (h : s.data.toList = []) : s.size = 0 := by
  have : s.data.toList.length = s.size := by simp
  rw [h] at this; simpa using this.symm

theorem fin_bad {M : Int} (h : M = 0 ∨ 1125899906842624 < M) : fin (min M 2251799813685248) = (0, 1) := by
  unfold fin
  rcases Int.le_total M 2251799813685248 with h1 | h1
  · rw [Int.min_eq_left h1, if_pos h]
  · rw [Int.min_eq_right h1, if_pos (by omega)]
theorem fin_ok {M : Int} (h : M ≠ 0) (h2 : M ≤ 1125899906842624) : fin (min M 2251799813685248) = (M, 0) := by
  unfold fin
  rw [Int.min_eq_left (by omega), if_neg (by omega)]

set_option maxHeartbeats 4000000 in
theorem duration_any (s0 : ByteArray) (w0 : World) (hs : s0.size ≤ 9223372036854775807) :
    Calls Tryd.prog 9 #[.string s0] w0 fun e w' => e = .returned (.tuple #[.int .i64 (durV s0.data.toList).1, .int .i64 (durV s0.data.toList).2]) ∧ w0 = w' := by
  obtain ⟨R, hR⟩ : ∃ R, R = durV s0.data.toList := ⟨_, rfl⟩
  rw [← hR]
  have HR := Lib.hid hR
  clear hR
  go_enter Tryd.func9, Tryd.ntmps9
  go_wp2_with fail
  refine wp_jumps2_fall (DurJ0 w0 R) (DurJ1 w0 R) (fun a _ => 2 * lenS a + 1) (fun a _ => 2 * lenS a) rfl rfl ?_ ?_ ?_
  · intro hfall
    have HF := Lib.hid hfall
    clear hfall
    by_cases h0 : s0.size = 0
    · have e1 := data_nil h0
      have e2 : s0.toList = [] := by rw [ByteArray.toList_eq]; exact e1
      have HQ := Lib.hid (show R = (0, 2) by rw [HR.out, e1]; rfl)
      clear h0 e1
      go_wp2_with fail
      simp only [jumps2]
      go_ret2
      exact ⟨ret2 (by rw [HQ.out]) (by rw [HQ.out]), rfl⟩
    · have h1 : 0 < s0.size := by omega
      have e1 : s0.data.toList ≠ [] := ne_data h1
      have e2 : s0.toList ≠ [] := by rw [ByteArray.toList_eq]; exact e1
      have e3 : s0.toList.isEmpty = false := by simpa using e2
      by_cases h64 : s0.size ≤ 64
      · have HQ := Lib.hid (show R = durL (s0.size + 1) s0.data.toList 0 86400001 by
          rw [HR.out, durV, if_neg (by intro h; rcases h with h | h; exact e1 h; simp at h; omega)]; simp)
        clear h0 e1
        go_wp2_with fail
        go_step3
        rename_i hK
        refine hK _ _ (HF.out _ _ (DurJ0.mk s0 0 86400001 (s0.size + 1) ?_ (by omega) h64 (by omega) (by omega) HQ.out.symm))
        rfl
      · have HQ := Lib.hid (show R = (0, 2) by
          rw [HR.out, durV, if_pos (.inr (by simp; omega))])
        have h65 : 64 < s0.size := by omega
        clear h0 e1 h64
        go_wp2_with fail
        simp only [jumps2]
        go_ret2
        exact ⟨ret2 (by rw [HQ.out]) (by rw [HQ.out]), rfl⟩
  · rintro a w ⟨rfl, s, out, last, u, k, rfl, hk, h64, ho1, ho2, hv⟩ hfall
    have HF := Lib.hid hfall
    obtain ⟨m, rfl⟩ : ∃ m, k = m + 1 := ⟨k - 1, by omega⟩
    have HV := Lib.hid (show durT (durL m) (digs s.data.toList 0 false) out last = R from hv)
    clear hfall hv
    go_wp2_with fail
    go_step3
    rename_i hK
    refine hK _ _ (HF.out _ _ (DurJ1.mk s out last 0 false m ?_ (by omega) h64 ho1 ho2 (by omega) (by omega) HV.out) ?_)
    · rfl
    · show 2 * s.size < 2 * s.size + 1
      omega
  · rintro a w ⟨rfl, s, out, last, n, b, u, k, rfl, hk, h64, ho1, ho2, hn1, hn2, hv⟩
    have HV := Lib.hid hv
    clear hv
    by_cases hd : ∃ h : 0 < s.size, (48 : Int) ≤ (s[0].toNat : Int) ∧ (s[0].toNat : Int) ≤ 57
    · obtain ⟨h0, hd1, hd2⟩ := hd
      have e1 : s.data.toList ≠ [] := ne_data h0
      have e2 : s.toList ≠ [] := by rw [ByteArray.toList_eq]; exact e1
      have e3 : s.toList.isEmpty = false := by simpa using e2
      have e4 : (s.extract 1 s.size).size = s.size - 1 := by rw [ByteArray.size_extract]; omega
      have HQ := Lib.hid (show durT (durL k) (digs (s.extract 1 s.size).data.toList (min ((10 : Int) * n + ((s[0].toNat : Int) - 48)) 2251799813685248) true) out last = R by
        rw [← HV.out, cons_data h0, digs, if_pos ⟨hd1, hd2⟩])
      have HE := Lib.hid e4
      clear e1 e4
      by_cases hm : (10 : Int) * n + ((s[0].toNat : Int) - 48) ≤ 2251799813685248
      · have HM := Lib.hid (show min ((10 : Int) * n + ((s[0].toNat : Int) - 48)) 2251799813685248 = (10 : Int) * n + ((s[0].toNat : Int) - 48) by omega)
        go_wp2_with fail
        go_step3
        refine .inr ⟨rfl, DurJ1.mk (s.extract 1 s.size) out last ((10 : Int) * n + ((s[0].toNat : Int) - 48)) true k ?_ (by rw [HE.out]; omega) (by rw [HE.out]; omega) ho1 ho2 (by omega) hm ?_, ?_⟩
        · rfl
        · rw [← HM.out]; exact HQ.out
        · show 2 * (s.extract 1 s.size).size < 2 * s.size
          rw [HE.out]; omega
      · have HM := Lib.hid (show min ((10 : Int) * n + ((s[0].toNat : Int) - 48)) 2251799813685248 = 2251799813685248 by omega)
        go_wp2_with fail
        go_step3
        refine .inr ⟨rfl, DurJ1.mk (s.extract 1 s.size) out last 2251799813685248 true k ?_ (by rw [HE.out]; omega) (by rw [HE.out]; omega) ho1 ho2 (by omega) (by omega) ?_, ?_⟩
        · rfl
        · rw [← HM.out]; exact HQ.out
        · show 2 * (s.extract 1 s.size).size < 2 * s.size
          rw [HE.out]; omega
    · have HQ := Lib.hid (show durT (durL k) (n, b, s.data.toList) out last = R by
        rw [← HV.out]
        by_cases h0 : 0 < s.size
        · rw [cons_data h0, digs, if_neg (fun h => hd ⟨h0, h⟩)]
        · rw [data_nil (by omega)]; rfl)
      have hway : s.toList = [] ∨ (∃ h : 0 < s.size, s.toList ≠ [] ∧ s.toList.isEmpty = false ∧ (s[0].toNat : Int) < 48) ∨ (∃ h : 0 < s.size, s.toList ≠ [] ∧ s.toList.isEmpty = false ∧ (57 : Int) < (s[0].toNat : Int)) := by
        by_cases h0 : 0 < s.size
        · have e2 : s.toList ≠ [] := by rw [ByteArray.toList_eq]; exact ne_data h0
          have e3 : s.toList.isEmpty = false := by simpa using e2
          by_cases h1 : (s[0].toNat : Int) < 48
          · exact .inr (.inl ⟨h0, e2, e3, h1⟩)
          · refine .inr (.inr ⟨h0, e2, e3, ?_⟩)
            have : ¬ (s[0].toNat : Int) ≤ 57 := fun h2 => hd ⟨h0, by omega, h2⟩
            omega
        · left; rw [ByteArray.toList_eq]; exact data_nil (by omega)
      clear hd
      have hu := unitL_cases s.data.toList
      have hls : s.data.toList.length = s.size := by simp
      rw [hls] at hu
      obtain ⟨ec, sc, hU⟩ : ∃ ec sc, unitL s.data.toList = (ec, sc) := ⟨_, _, rfl⟩
      have hcu := unit_any s w (by omega)
      rw [hU] at hu hcu
      simp only at hu hcu
      have HC := Lib.hid hcu
      have hq := HQ.out
      simp only [durT, hU] at hq
      have HN := Lib.hid hq
      clear hls hcu hq HQ HV
      by_cases b1 : b = true ∧ sc ≠ 0 ∧ ec < last
      · obtain ⟨rfl, b2, b3⟩ := b1
        have hu2 : (1 ≤ ec ∧ ec ≤ 86400000) ∧ 1 ≤ sc ∧ sc ≤ s.size := by
          rcases hu with ⟨_, h⟩ | h
          · exact absurd h b2
          · exact h
        obtain ⟨⟨u1, u2⟩, u3, u4⟩ := hu2
        have hfit := unit_fit (q := 2251799813685248 / ec) u1 hn1 rfl
        have hn := HN.out
        rw [if_neg (by rintro (h | h | h); exact absurd h (by simp); exact b2 h; omega)] at hn
        have HN2 := Lib.hid hn
        have b4 : (sc == 0) = false := by simpa using b2
        have b5 : decide (last ≤ ec) = false := by simp; omega
        have b6 : ec ≠ 0 := by omega
        have hq0 : 0 ≤ (2251799813685248 : Int) / ec := Int.ediv_nonneg (by omega) (by omega)
        have e5 : (s.extract sc.toNat s.size).data.toList = s.data.toList.drop sc.toNat := Lib.extract_to_end _ _
        have e6 : (s.extract sc.toNat s.size).size = s.size - sc.toNat := by rw [ByteArray.size_extract]; omega
        have HE5 := Lib.hid e5
        have HE6 := Lib.hid e6
        have HU := Lib.hid hu
        clear hn HN hu e5 e6
        have hX : ∃ X, capN n ec = X ∧ ((X = n ∧ n ≤ 2251799813685248 / ec) ∨ (X = 2251799813685248 / ec ∧ 2251799813685248 / ec < n)) := by
          unfold capN
          split
          · exact ⟨_, rfl, .inr ⟨rfl, by assumption⟩⟩
          · exact ⟨_, rfl, .inl ⟨rfl, by omega⟩⟩
        obtain ⟨X, hcX, hX⟩ := hX
        rw [hcX] at hfit HN2
        obtain ⟨-, hf2, hf3⟩ := hfit
        clear hcX
        by_cases hrest : s.size = sc.toNat
        · have HZ := Lib.hid (show R = fin (min (out + X * ec) 2251799813685248) by
            rw [← HN2.out, if_pos]
            apply List.drop_eq_nil_of_le
            simp; omega)
          have e7 : (s.extract sc.toNat s.size).toList = [] := by
            rw [ByteArray.toList_eq]; apply data_nil; rw [HE6.out]; omega
          clear HN2 hrest
          rcases hX with ⟨rfl, hX⟩ | ⟨rfl, hX⟩ <;> rcases hway with h | ⟨h, h1, h2, h3⟩ | ⟨h, h1, h2, h3⟩
          all_goals
            go_wp2_with fail
            refine HC.out.mono ?_
            rintro e w' ⟨rfl, rfl⟩
            go_wp2_with fail
            all_goals
              simp only [jumps2]
              go_ret2
              first
              | exact ⟨ret2 (by rw [HZ.out, fin_bad (by (try simp only [beq_iff_eq] at *); omega)]) (by rw [HZ.out, fin_bad (by (try simp only [beq_iff_eq] at *); omega)]), rfl⟩
              | exact ⟨ret2 (by rw [HZ.out, fin_ok (by (try simp only [beq_eq_false_iff_ne, ne_eq] at *); omega) (by omega)]) (by rw [HZ.out, fin_ok (by (try simp only [beq_eq_false_iff_ne, ne_eq] at *); omega) (by omega)]), rfl⟩
        · have HZ := Lib.hid (show durL k (s.data.toList.drop sc.toNat) (min (out + X * ec) 2251799813685248) ec = R by
            rw [← HN2.out, if_neg]
            intro h
            have := congrArg List.length h
            simp at this
            omega)
          have e7 : (s.extract sc.toNat s.size).toList ≠ [] := by
            rw [ByteArray.toList_eq]; apply ne_data; rw [HE6.out]; omega
          have e8 : (s.extract sc.toNat s.size).toList.isEmpty = false := by simpa using e7
          clear HN2 hrest
          rcases hX with ⟨rfl, hX⟩ | ⟨rfl, hX⟩ <;> rcases hway with h | ⟨h, h1, h2, h3⟩ | ⟨h, h1, h2, h3⟩
          all_goals
            go_wp2_with fail
            refine HC.out.mono ?_
            rintro e w' ⟨rfl, rfl⟩
            go_wp2_with fail
            all_goals
              go_step3
              refine .inl ⟨rfl, DurJ0.mk (s.extract sc.toNat s.size) ?_ ec k ?_ (by rw [HE6.out]; omega) (by rw [HE6.out]; omega) ?_ ?_ ?_, ?_⟩
              rotate_left
              · rfl
              · omega
              · omega
              · rw [HE5.out]
                refine (congrArg (fun o => durL k _ o ec) ?_).trans HZ.out
                first | exact (Int.min_eq_left (by omega)).symm | exact (Int.min_eq_right (by omega)).symm
              · show 2 * (s.extract sc.toNat s.size).size + 1 < 2 * s.size
                rw [HE6.out]; omega
      · have hz : R = (0, 2) := by
          rw [← HN.out, if_pos]
          rcases Bool.eq_false_or_eq_true b with h | h
          · by_cases h2 : sc = 0
            · exact .inr (.inl h2)
            · refine .inr (.inr ?_)
              have : ¬ ec < last := fun h3 => b1 ⟨h, h2, h3⟩
              omega
          · exact .inl h
        have HZ := Lib.hid hz
        clear hz HN hu
        have hc : ∀ (P : Prop), (b = false → P) → (b = true → sc = 0 → P) → (b = true → (sc == 0) = false → last ≤ ec → P) → P := by
          intro P p1 p2 p3
          cases b with
          | false => exact p1 rfl
          | true =>
            by_cases h2 : sc = 0
            · exact p2 rfl h2
            · refine p3 rfl (by simpa using h2) ?_
              have : ¬ ec < last := fun h3 => b1 ⟨rfl, h2, h3⟩
              omega
        clear b1
        apply hc
        · rintro rfl
          clear hc
          rcases hway with h | ⟨h, h1, h2, h3⟩ | ⟨h, h1, h2, h3⟩
          all_goals
            go_wp2_with fail
            refine HC.out.mono ?_
            rintro e w' ⟨rfl, rfl⟩
            go_wp2_with fail
            simp only [jumps2]
            go_ret2
            exact ⟨ret2 (by rw [HZ.out]) (by rw [HZ.out]), rfl⟩
        · rintro rfl rfl
          clear hc
          rcases hway with h | ⟨h, h1, h2, h3⟩ | ⟨h, h1, h2, h3⟩
          all_goals
            go_wp2_with fail
            refine HC.out.mono ?_
            rintro e w' ⟨rfl, rfl⟩
            go_wp2_with fail
            simp only [jumps2]
            go_ret2
            exact ⟨ret2 (by rw [HZ.out]) (by rw [HZ.out]), rfl⟩
        · rintro rfl b4 b5
          clear hc
          rcases hway with h | ⟨h, h1, h2, h3⟩ | ⟨h, h1, h2, h3⟩
          all_goals
            go_wp2_with fail
            refine HC.out.mono ?_
            rintro e w' ⟨rfl, rfl⟩
            go_wp2_with fail
            simp only [jumps2]
            go_ret2
            exact ⟨ret2 (by rw [HZ.out]) (by rw [HZ.out]), rfl⟩
end Go.Proofs.YtkflhfdpdgnbfaaDoor
