/- Contracts of Index, Named. -/
import Derived.Test.YtidmbjgnkodiiaaWin6
namespace Go.Proofs.Ytidmbjgnkodiiaa
open Go.RowKit
set_option linter.unusedVariables false
set_option linter.unusedSimpArgs false

def find (s : ByteArray) : List ByteArray → Nat → Int
  | [], _ => -1
  | x :: l, k => if x.toList = s.toList then (k : Int) else find s l (k + 1)
theorem find_drop (s : ByteArray) (xs : List ByteArray) (k : Nat) (h : k < xs.length) : find s (xs.drop k) k = if (xs[k]).toList = s.toList then (k : Int) else find s (xs.drop (k + 1)) (k + 1) := by
  rw [List.drop_eq_getElem_cons h]; rfl

set_option maxHeartbeats 1000000 in
theorem index_any (v : Value) (xs : List ByteArray) (s : ByteArray) (w : World) (h : Sl senc1 w v xs) :
    Calls Try.prog 28 #[v, .string s] w fun e w' => e = .returned (.int .i64 (find s xs 0)) ∧ w = w' := by
  obtain ⟨a, cap, rfl, ⟨hle, hcap⟩, hc⟩ := h.strings
  have HC := Lib.hid hc
  clear hc h
  go_enter Try.func28, Try.ntmps28
  go_wp2_with fail
  go_loopw [8] (fun i wr => ∃ k : Nat, k ≤ xs.length ∧ i = .int .i64 k ∧ find s (xs.drop k) k = find s xs 0 ∧ wr = w) (fun i _ => xs.length - (intOf i).toNat)
  case atStart => exact ⟨0, Nat.zero_le _, rfl, rfl, rfl⟩
  case round =>
    obtain ⟨k, hk, rfl, hv, rfl⟩ := hrel
    have HV := Lib.hid hv
    clear hv
    by_cases hlt : k < xs.length
    · obtain ⟨b, off, rfl, hcc⟩ := HC.out k hlt
      have hc0 := hcc k hlt
      have hd := find_drop s xs k hlt
      obtain ⟨x, hx⟩ : ∃ x, x = xs[k] := ⟨_, rfl⟩
      rw [← hx] at hc0 hd
      clear hcc hx
      have hk0 : (0 : Int) ≤ (k : Int) := Int.natCast_nonneg _
      have hk1 : (k : Int) < (xs.length : Int) := by omega
      by_cases heq : x.toList = s.toList
      · rw [if_pos heq] at hd
        have b1 : (x.toList == s.toList) = true := by simpa using heq
        have b2 : (s.toList == x.toList) = true := by simpa using heq.symm
        have HD := Lib.hid hd
        clear hd heq
        go_wp2_with fail
        go_ret
        exact ⟨ret_i (by rw [← HV.out, HD.out]), rfl⟩
      · rw [if_neg heq] at hd
        have b1 : (x.toList == s.toList) = false := by simpa using heq
        have b2 : (s.toList == x.toList) = false := by simpa using (fun e => heq (Eq.symm e))
        have HD := Lib.hid hd
        clear hd heq
        go_wp2_with fail
        go_roundw
        case rel => exact ⟨k + 1, by omega, by go_num, by rw [← HV.out, HD.out], by trivial⟩
        case measure => simp [intOf]; omega
    · obtain rfl : k = xs.length := by omega
      go_wp2_with fail
      go_ret
      exact ⟨ret_i (by rw [← HV.out, List.drop_length]; rfl), rfl⟩

def namedI (s : ByteArray) : Int × Bool := if find s namesL 0 < 1 then (0, false) else (find s namesL 0, true)
theorem find_bd (s : ByteArray) (xs : List ByteArray) : ∀ k : Nat, -1 ≤ find s xs k ∧ find s xs k ≤ (k + xs.length : Nat) := by
  induction xs with
  | nil => intro k; simp [find]
  | cons x xs ih =>
    intro k
    have := ih (k + 1)
    unfold find
    split <;> (simp only [List.length_cons]; omega)
theorem Try.namedEq (s : ByteArray) : namedI s = if find s (namesL.drop 1) 1 < 0 then (0, false) else (find s (namesL.drop 1) 1, true) := by
  have h0 : find s namesL 0 = if (⟨#[]⟩ : ByteArray).toList = s.toList then 0 else find s (namesL.drop 1) 1 := rfl
  unfold namedI
  by_cases he : (⟨#[]⟩ : ByteArray).toList = s.toList
  · have e : ∀ (l : List ByteArray) k, find s l k = find ⟨#[]⟩ l k := by
      intro l
      induction l with
      | nil => intro k; rfl
      | cons x l ih => intro k; unfold find; rw [ih, he]
    rw [e, e]
    decide +kernel
  · rw [h0, if_neg he]
    have hp : find s (namesL.drop 1) 1 = -1 ∨ 1 ≤ find s (namesL.drop 1) 1 := by
      have : ∀ (l : List ByteArray) (k : Nat), 1 ≤ k → find s l k = -1 ∨ 1 ≤ find s l k := by
        intro l
        induction l with
        | nil => intro k _; exact .inl rfl
        | cons x l ih =>
          intro k hk
          unfold find
          split
          · right; omega
          · exact ih (k + 1) (by omega)
      exact this _ 1 (by omega)
    rcases hp with h | h
    · rw [h]; rfl
    · rw [if_neg (by omega), if_neg (by omega)]

set_option maxRecDepth 100000 in
theorem named_any (s : ByteArray) (w : World) : Calls Try.prog 13 #[.string s] w fun e w' => e = .returned (.tuple #[.int .i64 (namedI s).1, .bool (namedI s).2]) ∧ Below w.heap.size w w' := by
  obtain ⟨R, hR⟩ : ∃ R, R = namedI s := ⟨_, rfl⟩
  rw [← hR]
  unfold namedI at hR
  have hbd := find_bd s namesL 0
  obtain ⟨n, hn⟩ : ∃ n, n = find s namesL 0 := ⟨_, rfl⟩
  have hidx : ∀ v w2, Sl senc1 w2 v namesL → Calls Try.prog 28 #[v, .string s] w2 fun e w' => e = .returned (.int .i64 n) ∧ w2 = w' := fun v w2 h => by rw [hn]; exact index_any v namesL s w2 h
  rw [← hn] at hR hbd
  have HIDX := Lib.hid hidx
  clear hidx hn
  by_cases h1 : n < 1
  · rw [if_pos h1] at hR
    subst hR
    go_enter Try.func13, Try.ntmps13
    go_wp2_with fail
    refine (names_any _).mono ?_
    rintro e w1 ⟨v, rfl, hs, hb⟩
    go_wp2_with fail
    refine (HIDX.out _ _ hs).mono ?_
    rintro e w2 ⟨rfl, rfl⟩
    go_wp2_with fail
    go_ret2
    exact ⟨rfl, hb⟩
  · rw [if_neg h1] at hR
    subst hR
    go_enter Try.func13, Try.ntmps13
    go_wp2_with fail
    refine (names_any _).mono ?_
    rintro e w1 ⟨v, rfl, hs, hb⟩
    go_wp2_with fail
    refine (HIDX.out _ _ hs).mono ?_
    rintro e w2 ⟨rfl, rfl⟩
    go_wp2_with fail
    go_ret2
    exact ⟨rfl, hb⟩

end Go.Proofs.Ytidmbjgnkodiiaa
