/- Names by number: Name, Named, both sides. How much an operator binds: both sides. known of chapter 11's laws: its walk. Openings of a match and of labels. Whether a match may be: the reference (printed by gen_jn11.py). vector.Same; one point of a vector. (Several texts in one file, by merge.py.) -/
import Derived.Test.YtogjcaakfnfapaaDoorZJ2
import Derived.Test.YtogjcaakfnfapaaDoorZJ4
import Derived.Test.YtogjcaakfnfapaaDoorZJ6
import Derived.Test.YtogjcaakfnfapaaDoorZA13
import Derived.Test.YtogjcaakfnfapaaDoorZJ3
import Derived.Test.YtogjcaakfnfapaaDoorZJ1
namespace Go.Proofs.YtogjcaakfnfapaaDoor
open Go Go.RowKit
set_option linter.unusedVariables false
set_option linter.unusedSimpArgs false
def jnNamesL : List ByteArray := [⟨#[]⟩, ⟨#[43]⟩, ⟨#[45]⟩, ⟨#[42]⟩, ⟨#[47]⟩, ⟨#[61, 61]⟩, ⟨#[33, 61]⟩, ⟨#[62]⟩, ⟨#[60]⟩, ⟨#[62, 61]⟩, ⟨#[60, 61]⟩, ⟨#[97, 110, 100]⟩, ⟨#[111, 114]⟩, ⟨#[117, 110, 108, 101, 115, 115]⟩, ⟨#[100, 101, 102, 97, 117, 108, 116]⟩]
set_option maxRecDepth 100000 in
theorem jnNames_any (w : World) : Calls Tryd.prog 74 #[] w fun e w' => ∃ v, e = .returned v ∧ Sl senc1 w' v jnNamesL ∧ Below w.heap.size w w' := by
  go_enter Tryd.func74, Tryd.ntmps74
  go_wp2
  go_ret
  exact ⟨_, rfl, Sl.lit (heap_new w _) rfl rfl (by decide), (Below.refl _ _).alloc (Nat.le_refl _) _⟩
set_option maxRecDepth 100000 in
theorem jnrnames_any (w : World) : Calls Tryd.prog 75 #[] w fun e w' => ∃ v, e = .returned v ∧ Sl senc1 w' v jnNamesL ∧ Below w.heap.size w w' := by
  go_enter Tryd.func75, Tryd.ntmps75
  go_wp2
  go_ret
  exact ⟨_, rfl, Sl.lit (heap_new w _) rfl rfl (by decide), (Below.refl _ _).alloc (Nat.le_refl _) _⟩

def jnNameOf (fn : Int) : ByteArray := if 1 ≤ fn ∧ fn ≤ 14 then jnNamesL.getD fn.toNat ⟨#[]⟩ else ⟨#[]⟩

set_option maxRecDepth 100000 in
theorem jnName_any (fn : Int) (w : World) : Calls Tryd.prog 38 #[.int .i64 fn] w fun e w' => e = .returned (.string (jnNameOf fn)) ∧ Below w.heap.size w w' := by
  by_cases h1 : 1 ≤ fn
  · by_cases h2 : fn ≤ 14
    · obtain ⟨n, rfl⟩ : ∃ n : Nat, fn = n := ⟨fn.toNat, by omega⟩
      have hnm : jnNameOf n = jnNamesL.getD n ⟨#[]⟩ := by unfold jnNameOf; rw [if_pos ⟨h1, h2⟩]; rfl
      have HN := Lib.hid hnm
      clear hnm
      go_enter Tryd.func38, Tryd.ntmps38
      go_wp2_with fail
      refine (jnNames_any _).mono ?_
      rintro e w1 ⟨v, rfl, hs, hb⟩
      obtain ⟨a, cap, rfl, hle, hc⟩ := hs.strings
      have hn : n < jnNamesL.length := by show n < 15; omega
      obtain ⟨b, off, rfl, hc⟩ := hc n hn
      have hc0 := hc n hn
      have hl : jnNamesL.length = 15 := rfl
      have HC := Lib.hid hc
      rw [hl] at hle ⊢
      clear hc hs hl
      go_wp2_with fail
      go_ret
      refine ⟨?_, hb⟩
      rw [HN.out, List.getD_eq_getElem?_getD, List.getElem?_eq_getElem hn]
      rfl
    · have HN := Lib.hid (show jnNameOf fn = ⟨#[]⟩ by unfold jnNameOf; rw [if_neg (by omega)])
      go_enter Tryd.func38, Tryd.ntmps38
      go_wp2_with fail
      go_ret
      exact ⟨by first | rfl | (rw [HN.out]; rfl), Below.refl _ _⟩
  · have HN := Lib.hid (show jnNameOf fn = ⟨#[]⟩ by unfold jnNameOf; rw [if_neg (by omega)])
    have h3 : fn < 1 := by omega
    go_enter Tryd.func38, Tryd.ntmps38
    go_wp2_with fail
    go_ret
    exact ⟨by first | rfl | (rw [HN.out]; rfl), Below.refl _ _⟩
set_option maxRecDepth 100000 in
theorem jnrname_any (fn : Int) (w : World) : Calls Tryd.prog 39 #[.int .i64 fn] w fun e w' => e = .returned (.string (jnNameOf fn)) ∧ Below w.heap.size w w' := by
  by_cases h1 : 1 ≤ fn
  · by_cases h2 : fn ≤ 14
    · obtain ⟨n, rfl⟩ : ∃ n : Nat, fn = n := ⟨fn.toNat, by omega⟩
      have hnm : jnNameOf n = jnNamesL.getD n ⟨#[]⟩ := by unfold jnNameOf; rw [if_pos ⟨h1, h2⟩]; rfl
      have HN := Lib.hid hnm
      clear hnm
      go_enter Tryd.func39, Tryd.ntmps39
      go_wp2_with fail
      refine (jnrnames_any _).mono ?_
      rintro e w1 ⟨v, rfl, hs, hb⟩
      obtain ⟨a, cap, rfl, hle, hc⟩ := hs.strings
      have hn : n < jnNamesL.length := by show n < 15; omega
      obtain ⟨b, off, rfl, hc⟩ := hc n hn
      have hc0 := hc n hn
      have hl : jnNamesL.length = 15 := rfl
      have HC := Lib.hid hc
      rw [hl] at hle ⊢
      clear hc hs hl
      go_wp2_with fail
      go_ret
      refine ⟨?_, hb⟩
      rw [HN.out, List.getD_eq_getElem?_getD, List.getElem?_eq_getElem hn]
      rfl
    · have HN := Lib.hid (show jnNameOf fn = ⟨#[]⟩ by unfold jnNameOf; rw [if_neg (by omega)])
      go_enter Tryd.func39, Tryd.ntmps39
      go_wp2_with fail
      go_ret
      exact ⟨by first | rfl | (rw [HN.out]; rfl), Below.refl _ _⟩
  · have HN := Lib.hid (show jnNameOf fn = ⟨#[]⟩ by unfold jnNameOf; rw [if_neg (by omega)])
    have h3 : fn < 1 := by omega
    go_enter Tryd.func39, Tryd.ntmps39
    go_wp2_with fail
    go_ret
    exact ⟨by first | rfl | (rw [HN.out]; rfl), Below.refl _ _⟩

def jnFind (s : ByteArray) : List ByteArray → Nat → Int
  | [], _ => -1
  | x :: l, k => if x.toList = s.toList then (k : Int) else jnFind s l (k + 1)
theorem jnFind_drop (s : ByteArray) (xs : List ByteArray) (k : Nat) (h : k < xs.length) : jnFind s (xs.drop k) k = if (xs[k]).toList = s.toList then (k : Int) else jnFind s (xs.drop (k + 1)) (k + 1) := by
  rw [List.drop_eq_getElem_cons h]; rfl

set_option maxHeartbeats 1000000 in
theorem jnIndex_any (v : Value) (xs : List ByteArray) (s : ByteArray) (w : World) (h : Sl senc1 w v xs) :
    Calls Tryd.prog 63 #[v, .string s] w fun e w' => e = .returned (.int .i64 (jnFind s xs 0)) ∧ w = w' := by
  obtain ⟨a, cap, rfl, ⟨hle, hcap⟩, hc⟩ := h.strings
  have HC := Lib.hid hc
  clear hc h
  go_enter Tryd.func63, Tryd.ntmps63
  go_wp2_with fail
  go_loopw [8] (fun i wr => ∃ k : Nat, k ≤ xs.length ∧ i = .int .i64 k ∧ jnFind s (xs.drop k) k = jnFind s xs 0 ∧ wr = w) (fun i _ => xs.length - (intOf i).toNat)
  case atStart => exact ⟨0, Nat.zero_le _, rfl, rfl, rfl⟩
  case round =>
    obtain ⟨k, hk, rfl, hv, rfl⟩ := hrel
    have HV := Lib.hid hv
    clear hv
    by_cases hlt : k < xs.length
    · obtain ⟨b, off, rfl, hcc⟩ := HC.out k hlt
      have hc0 := hcc k hlt
      have hd := jnFind_drop s xs k hlt
      obtain ⟨x, hx⟩ : ∃ x, x = xs[k] := ⟨_, rfl⟩
      rw [← hx] at hc0 hd
      clear hcc hx
      have hk0 : (0 : Int) ≤ (k : Int) := Int.natCast_nonneg _
      have hk1 : (k : Int) < (xs.length : Int) := by omega
      by_cases heq : x.toList = s.toList
      · rw [if_pos heq] at hd
        have b1 : (x.toList == s.toList) = true := by simpa using heq
        have b2 : (s.toList == x.toList) = true := by simpa using heq.symm
        have HD := Lib.hid hd
        clear hd heq
        go_wp2_with fail
        go_ret
        exact ⟨ret_i (by rw [← HV.out, HD.out]), rfl⟩
      · rw [if_neg heq] at hd
        have b1 : (x.toList == s.toList) = false := by simpa using heq
        have b2 : (s.toList == x.toList) = false := by simpa using (fun e => heq (Eq.symm e))
        have HD := Lib.hid hd
        clear hd heq
        go_wp2_with fail
        go_roundw
        case rel => exact ⟨k + 1, by omega, by go_num, by rw [← HV.out, HD.out], by trivial⟩
        case measure => simp [intOf]; omega
    · obtain rfl : k = xs.length := by omega
      go_wp2_with fail
      go_ret
      exact ⟨ret_i (by rw [← HV.out, List.drop_length]; rfl), rfl⟩

def jnNamedI (s : ByteArray) : Int × Bool := if jnFind s jnNamesL 0 < 1 then (0, false) else (jnFind s jnNamesL 0, true)
theorem jnFind_bd (s : ByteArray) (xs : List ByteArray) : ∀ k : Nat, -1 ≤ jnFind s xs k ∧ jnFind s xs k ≤ (k + xs.length : Nat) := by
  induction xs with
  | nil => intro k; simp [jnFind]
  | cons x xs ih =>
    intro k
    have := ih (k + 1)
    unfold jnFind
    split <;> (simp only [List.length_cons]; omega)
theorem Tryd.jnNamedEq (s : ByteArray) : jnNamedI s = if jnFind s (jnNamesL.drop 1) 1 < 0 then (0, false) else (jnFind s (jnNamesL.drop 1) 1, true) := by
  have h0 : jnFind s jnNamesL 0 = if (⟨#[]⟩ : ByteArray).toList = s.toList then 0 else jnFind s (jnNamesL.drop 1) 1 := rfl
  unfold jnNamedI
  by_cases he : (⟨#[]⟩ : ByteArray).toList = s.toList
  · have e : ∀ (l : List ByteArray) k, jnFind s l k = jnFind ⟨#[]⟩ l k := by
      intro l
      induction l with
      | nil => intro k; rfl
      | cons x l ih => intro k; unfold jnFind; rw [ih, he]
    rw [e, e]
    decide +kernel
  · rw [h0, if_neg he]
    have hp : jnFind s (jnNamesL.drop 1) 1 = -1 ∨ 1 ≤ jnFind s (jnNamesL.drop 1) 1 := by
      have : ∀ (l : List ByteArray) (k : Nat), 1 ≤ k → jnFind s l k = -1 ∨ 1 ≤ jnFind s l k := by
        intro l
        induction l with
        | nil => intro k _; exact .inl rfl
        | cons x l ih =>
          intro k hk
          unfold jnFind
          split
          · right; omega
          · exact ih (k + 1) (by omega)
      exact this _ 1 (by omega)
    rcases hp with h | h
    · rw [h]; rfl
    · rw [if_neg (by omega), if_neg (by omega)]

set_option maxRecDepth 100000 in
theorem jnNamed_any (s : ByteArray) (w : World) : Calls Tryd.prog 34 #[.string s] w fun e w' => e = .returned (.tuple #[.int .i64 (jnNamedI s).1, .bool (jnNamedI s).2]) ∧ Below w.heap.size w w' := by
  obtain ⟨R, hR⟩ : ∃ R, R = jnNamedI s := ⟨_, rfl⟩
  rw [← hR]
  unfold jnNamedI at hR
  have hbd := jnFind_bd s jnNamesL 0
  obtain ⟨n, hn⟩ : ∃ n, n = jnFind s jnNamesL 0 := ⟨_, rfl⟩
  have hidx : ∀ v w2, Sl senc1 w2 v jnNamesL → Calls Tryd.prog 63 #[v, .string s] w2 fun e w' => e = .returned (.int .i64 n) ∧ w2 = w' := fun v w2 h => by rw [hn]; exact jnIndex_any v jnNamesL s w2 h
  rw [← hn] at hR hbd
  have HIDX := Lib.hid hidx
  clear hidx hn
  by_cases h1 : n < 1
  · rw [if_pos h1] at hR
    subst hR
    go_enter Tryd.func34, Tryd.ntmps34
    go_wp2_with fail
    refine (jnNames_any _).mono ?_
    rintro e w1 ⟨v, rfl, hs, hb⟩
    go_wp2_with fail
    refine (HIDX.out _ _ hs).mono ?_
    rintro e w2 ⟨rfl, rfl⟩
    go_wp2_with fail
    go_ret2
    exact ⟨rfl, hb⟩
  · rw [if_neg h1] at hR
    subst hR
    go_enter Tryd.func34, Tryd.ntmps34
    go_wp2_with fail
    refine (jnNames_any _).mono ?_
    rintro e w1 ⟨v, rfl, hs, hb⟩
    go_wp2_with fail
    refine (HIDX.out _ _ hs).mono ?_
    rintro e w2 ⟨rfl, rfl⟩
    go_wp2_with fail
    go_ret2
    exact ⟨rfl, hb⟩

set_option maxRecDepth 100000 in
set_option maxHeartbeats 1000000 in
theorem jnrnamed_any (s : ByteArray) (w : World) : Calls Tryd.prog 35 #[.string s] w fun e w' => e = .returned (.tuple #[.int .i64 (jnNamedI s).1, .bool (jnNamedI s).2]) ∧ Below w.heap.size w w' := by
  obtain ⟨R, hR⟩ : ∃ R, R = jnNamedI s := ⟨_, rfl⟩
  rw [← hR]
  rw [Tryd.jnNamedEq] at hR
  have HR := Lib.hid hR
  clear hR
  obtain ⟨xs, hxs⟩ : ∃ xs, xs = jnNamesL := ⟨_, rfl⟩
  have hl15 : xs.length = 15 := by rw [hxs]; rfl
  have hnames := jnrnames_any w
  rw [← hxs] at hnames HR
  have HNM := Lib.hid hnames
  clear hnames hxs
  go_enter Tryd.func35, Tryd.ntmps35
  go_wp2_with fail
  refine HNM.out.mono ?_
  rintro e w1 ⟨v, rfl, hs, hb⟩
  obtain ⟨a, cap, rfl, ⟨hle, hcap⟩, hc⟩ := hs.strings
  have HC := Lib.hid hc
  have HB := Lib.hid hb
  clear hc hs hb
  go_wp2_with fail
  go_loopw [5] (fun i wr => ∃ k : Nat, 1 ≤ k ∧ k ≤ xs.length ∧ i = .int .i64 k ∧ jnFind s (xs.drop k) k = jnFind s (xs.drop 1) 1 ∧ wr = w1) (fun i _ => xs.length - (intOf i).toNat)
  case atStart => exact ⟨1, by omega, by omega, rfl, rfl, rfl⟩
  case round =>
    obtain ⟨k, hk1, hk, rfl, hv, rfl⟩ := hrel
    have HV := Lib.hid hv
    clear hv
    by_cases hlt : k < xs.length
    · obtain ⟨b, off, rfl, hcc⟩ := HC.out k hlt
      have hc0 := hcc k hlt
      have hd := jnFind_drop s xs k hlt
      obtain ⟨x, hx⟩ : ∃ x, x = xs[k] := ⟨_, rfl⟩
      rw [← hx] at hc0 hd
      clear hcc hx
      have hk0 : (0 : Int) ≤ (k : Int) := Int.natCast_nonneg _
      have hk1 : (k : Int) < (xs.length : Int) := by omega
      by_cases heq : x.toList = s.toList
      · rw [if_pos heq] at hd
        have b1 : (x.toList == s.toList) = true := by simpa using heq
        have b2 : (s.toList == x.toList) = true := by simpa using heq.symm
        have HD := Lib.hid hd
        clear hd heq
        go_wp2_with fail
        go_ret2
        have hr := HR.out
        rw [← HV.out, HD.out, if_neg (by omega)] at hr
        subst hr
        exact ⟨rfl, HB.out⟩
      · rw [if_neg heq] at hd
        have b1 : (x.toList == s.toList) = false := by simpa using heq
        have b2 : (s.toList == x.toList) = false := by simpa using (fun e => heq (Eq.symm e))
        have HD := Lib.hid hd
        clear hd heq
        go_wp2_with fail
        go_roundw
        case rel => exact ⟨k + 1, by omega, by omega, by go_num, by rw [← HV.out, HD.out], by trivial⟩
        case measure => simp [intOf]; omega
    · obtain rfl : k = xs.length := by omega
      go_wp2_with fail
      go_ret2
      have hr := HR.out
      rw [← HV.out, List.drop_length] at hr
      obtain rfl : R = (0, false) := hr
      exact ⟨rfl, HB.out⟩
end Go.Proofs.YtogjcaakfnfapaaDoor
namespace Go.Proofs.YtogjcaakfnfapaaDoor
open Go Go.RowKit
set_option linter.unusedVariables false
set_option linter.unusedSimpArgs false
set_option maxRecDepth 100000
def levelL (op : Int) : Int := if op < 1 ∨ 14 < op then 0 else if op ≤ 2 then 5 else if op ≤ 4 then 6 else if op ≤ 10 then 4 else if op = 12 then 2 else if op = 14 then 1 else 3
theorem level_cases (op : Int) : (op < 1 ∨ 14 < op) ∨ ∃ k : Nat, 1 ≤ k ∧ k ≤ 14 ∧ op = k := by
  by_cases h : op < 1 ∨ 14 < op
  · exact .inl h
  · exact .inr ⟨op.toNat, by omega, by omega, by omega⟩
theorem level_any (op : Int) (w : World) : Calls Tryd.prog 40 #[.int .i64 op] w fun e w' => e = .returned (.int .i64 (levelL op)) ∧ w = w' := by
  rcases level_cases op with h | ⟨k, h1, h2, rfl⟩
  · rw [show levelL op = 0 by unfold levelL; rw [if_pos h]]
    have b1 : (op == 1) = false := by simp; omega
    have b2 : (op == 2) = false := by simp; omega
    have b3 : (op == 3) = false := by simp; omega
    have b4 : (op == 4) = false := by simp; omega
    have b5 : (op == 5) = false := by simp; omega
    have b6 : (op == 6) = false := by simp; omega
    have b7 : (op == 7) = false := by simp; omega
    have b8 : (op == 8) = false := by simp; omega
    have b9 : (op == 9) = false := by simp; omega
    have b10 : (op == 10) = false := by simp; omega
    have b11 : (op == 11) = false := by simp; omega
    have b12 : (op == 12) = false := by simp; omega
    have b13 : (op == 13) = false := by simp; omega
    have b14 : (op == 14) = false := by simp; omega
    rcases h with h | h
    · go_enter Tryd.func40, Tryd.ntmps40
      go_wp2_with fail
      go_ret
      exact ⟨rfl, rfl⟩
    · go_enter Tryd.func40, Tryd.ntmps40
      go_wp2_with fail
      go_ret
      exact ⟨rfl, rfl⟩
  · obtain rfl | rfl | rfl | rfl | rfl | rfl | rfl | rfl | rfl | rfl | rfl | rfl | rfl | rfl : k = 1 ∨ k = 2 ∨ k = 3 ∨ k = 4 ∨ k = 5 ∨ k = 6 ∨ k = 7 ∨ k = 8 ∨ k = 9 ∨ k = 10 ∨ k = 11 ∨ k = 12 ∨ k = 13 ∨ k = 14 := by omega
    · go_enter Tryd.func40, Tryd.ntmps40
      go_wp2_with fail
      go_ret
      exact ⟨rfl, rfl⟩
    · go_enter Tryd.func40, Tryd.ntmps40
      go_wp2_with fail
      go_ret
      exact ⟨rfl, rfl⟩
    · go_enter Tryd.func40, Tryd.ntmps40
      go_wp2_with fail
      go_ret
      exact ⟨rfl, rfl⟩
    · go_enter Tryd.func40, Tryd.ntmps40
      go_wp2_with fail
      go_ret
      exact ⟨rfl, rfl⟩
    · go_enter Tryd.func40, Tryd.ntmps40
      go_wp2_with fail
      go_ret
      exact ⟨rfl, rfl⟩
    · go_enter Tryd.func40, Tryd.ntmps40
      go_wp2_with fail
      go_ret
      exact ⟨rfl, rfl⟩
    · go_enter Tryd.func40, Tryd.ntmps40
      go_wp2_with fail
      go_ret
      exact ⟨rfl, rfl⟩
    · go_enter Tryd.func40, Tryd.ntmps40
      go_wp2_with fail
      go_ret
      exact ⟨rfl, rfl⟩
    · go_enter Tryd.func40, Tryd.ntmps40
      go_wp2_with fail
      go_ret
      exact ⟨rfl, rfl⟩
    · go_enter Tryd.func40, Tryd.ntmps40
      go_wp2_with fail
      go_ret
      exact ⟨rfl, rfl⟩
    · go_enter Tryd.func40, Tryd.ntmps40
      go_wp2_with fail
      go_ret
      exact ⟨rfl, rfl⟩
    · go_enter Tryd.func40, Tryd.ntmps40
      go_wp2_with fail
      go_ret
      exact ⟨rfl, rfl⟩
    · go_enter Tryd.func40, Tryd.ntmps40
      go_wp2_with fail
      go_ret
      exact ⟨rfl, rfl⟩
    · go_enter Tryd.func40, Tryd.ntmps40
      go_wp2_with fail
      go_ret
      exact ⟨rfl, rfl⟩
theorem rlevel_any (op : Int) (w : World) : Calls Tryd.prog 41 #[.int .i64 op] w fun e w' => e = .returned (.int .i64 (levelL op)) ∧ w = w' := by
  rcases level_cases op with h | ⟨k, h1, h2, rfl⟩
  · rw [show levelL op = 0 by unfold levelL; rw [if_pos h]]
    have b1 : (op == 1) = false := by simp; omega
    have b2 : (op == 2) = false := by simp; omega
    have b3 : (op == 3) = false := by simp; omega
    have b4 : (op == 4) = false := by simp; omega
    have b5 : (op == 5) = false := by simp; omega
    have b6 : (op == 6) = false := by simp; omega
    have b7 : (op == 7) = false := by simp; omega
    have b8 : (op == 8) = false := by simp; omega
    have b9 : (op == 9) = false := by simp; omega
    have b10 : (op == 10) = false := by simp; omega
    have b11 : (op == 11) = false := by simp; omega
    have b12 : (op == 12) = false := by simp; omega
    have b13 : (op == 13) = false := by simp; omega
    have b14 : (op == 14) = false := by simp; omega
    rcases h with h | h
    · go_enter Tryd.func41, Tryd.ntmps41
      go_wp2_with fail
      go_ret
      exact ⟨rfl, rfl⟩
    · go_enter Tryd.func41, Tryd.ntmps41
      go_wp2_with fail
      go_ret
      exact ⟨rfl, rfl⟩
  · obtain rfl | rfl | rfl | rfl | rfl | rfl | rfl | rfl | rfl | rfl | rfl | rfl | rfl | rfl : k = 1 ∨ k = 2 ∨ k = 3 ∨ k = 4 ∨ k = 5 ∨ k = 6 ∨ k = 7 ∨ k = 8 ∨ k = 9 ∨ k = 10 ∨ k = 11 ∨ k = 12 ∨ k = 13 ∨ k = 14 := by omega
    · go_enter Tryd.func41, Tryd.ntmps41
      go_wp2_with fail
      go_ret
      exact ⟨rfl, rfl⟩
    · go_enter Tryd.func41, Tryd.ntmps41
      go_wp2_with fail
      go_ret
      exact ⟨rfl, rfl⟩
    · go_enter Tryd.func41, Tryd.ntmps41
      go_wp2_with fail
      go_ret
      exact ⟨rfl, rfl⟩
    · go_enter Tryd.func41, Tryd.ntmps41
      go_wp2_with fail
      go_ret
      exact ⟨rfl, rfl⟩
    · go_enter Tryd.func41, Tryd.ntmps41
      go_wp2_with fail
      go_ret
      exact ⟨rfl, rfl⟩
    · go_enter Tryd.func41, Tryd.ntmps41
      go_wp2_with fail
      go_ret
      exact ⟨rfl, rfl⟩
    · go_enter Tryd.func41, Tryd.ntmps41
      go_wp2_with fail
      go_ret
      exact ⟨rfl, rfl⟩
    · go_enter Tryd.func41, Tryd.ntmps41
      go_wp2_with fail
      go_ret
      exact ⟨rfl, rfl⟩
    · go_enter Tryd.func41, Tryd.ntmps41
      go_wp2_with fail
      go_ret
      exact ⟨rfl, rfl⟩
    · go_enter Tryd.func41, Tryd.ntmps41
      go_wp2_with fail
      go_ret
      exact ⟨rfl, rfl⟩
    · go_enter Tryd.func41, Tryd.ntmps41
      go_wp2_with fail
      go_ret
      exact ⟨rfl, rfl⟩
    · go_enter Tryd.func41, Tryd.ntmps41
      go_wp2_with fail
      go_ret
      exact ⟨rfl, rfl⟩
    · go_enter Tryd.func41, Tryd.ntmps41
      go_wp2_with fail
      go_ret
      exact ⟨rfl, rfl⟩
    · go_enter Tryd.func41, Tryd.ntmps41
      go_wp2_with fail
      go_ret
      exact ⟨rfl, rfl⟩
end Go.Proofs.YtogjcaakfnfapaaDoor
namespace Go.Proofs.YtogjcaakfnfapaaDoor
open Go Go.RowKit
set_option linter.unusedVariables false
set_option linter.unusedSimpArgs false
set_option maxRecDepth 100000
def knA : List Lb := [(⟨#[95, 95, 110, 97, 109, 101, 95, 95]⟩, ⟨#[109]⟩), (⟨#[97]⟩, ⟨#[49]⟩)]
def knB : List Lb := [(⟨#[95, 95, 110, 97, 109, 101, 95, 95]⟩, ⟨#[110]⟩), (⟨#[97]⟩, ⟨#[49]⟩)]
def kpA : List Pt := [(knA, F2)]
def kpB : List Pt := [(knB, F3)]
def kpC : List Pt := [(lbSum, F5)]
theorem kpA_right : ∀ p ∈ kpA, rightL p.1 = true := by decide +kernel
theorem kpB_right : ∀ p ∈ kpB, rightL p.1 = true := by decide +kernel
theorem kpC_right : ∀ p ∈ kpC, rightL p.1 = true := by decide +kernel
theorem kpA_canon : kpA.map canonP = kpA := by decide +kernel
theorem kpB_canon : kpB.map canonP = kpB := by decide +kernel
theorem kpC_canon : kpC.map canonP = kpC := by decide +kernel
theorem strict_one (p : Pt) : Strict [p] := List.pairwise_singleton _ _
theorem kpA_ok : ∀ p ∈ kpA, PtOk p := by
  intro p hp
  rw [kpA, List.mem_singleton] at hp
  subst hp
  refine ⟨by decide, ?_, by unfold FB F2; decide⟩
  intro x hx
  simp only [knA, List.mem_cons, List.not_mem_nil, or_false] at hx
  rcases hx with rfl | rfl <;> decide
theorem kpB_ok : ∀ p ∈ kpB, PtOk p := by
  intro p hp
  rw [kpB, List.mem_singleton] at hp
  subst hp
  refine ⟨by decide, ?_, by unfold FB F3; decide⟩
  intro x hx
  simp only [knB, List.mem_cons, List.not_mem_nil, or_false] at hx
  rcases hx with rfl | rfl <;> decide
theorem k_bin : binP 1 0 0 [] [] false kpA kpB = kpC := by decide +kernel
theorem k_set : setP 13 0 [] kpA kpB = [] := by decide +kernel
theorem k_mchk : mchkL 0 [] 0 [] = 0 := by decide +kernel
theorem k_chk0 : chkL 0 [] = 0 := by decide +kernel
theorem twice_one {β : Type} (gl : β → List Lb) (z : β) : twiceB gl [z] = false := by simp [twiceB]
theorem k_name : jnNameOf 14 = ⟨#[100, 101, 102, 97, 117, 108, 116]⟩ := by decide +kernel
theorem nr_nil {e : Ending} {w : World} (h : NR [] e w) : ∃ v', e = .returned (.tuple #[v', .int .i64 0]) ∧ VS w v' [] := nr_known (fun p hp => by cases hp) rfl List.Pairwise.nil h
theorem vs_one (w : World) (t1 y1 t2 y2 : ByteArray) (b : Nat) :
    VS ((w.alloc (.cells #[.string t1, .string y1, .string t2, .string y2] 69)).alloc (.cells #[.slice (some ⟨w.heap.size, 0, none⟩) 2 2, .float .f64 b] 42)) (.slice (some ⟨w.heap.size + 1, 0, none⟩) 1 1) [([(t1, y1), (t2, y2)], b)] := by
  refine vs_of (zs := [(.slice (some ⟨w.heap.size, 0, none⟩) 2 2, [(t1, y1), (t2, y2)], b)]) (Sl.lit (lit3 _ _ _) rfl rfl (by omega)) (fun z hz => ?_)
  rw [List.mem_singleton.1 hz]
  have h1 := heap_new w (.cells #[.string t1, .string y1, .string t2, .string y2] 69)
  have h2 : Below (w.alloc (.cells #[.string t1, .string y1, .string t2, .string y2] 69)).heap.size (w.alloc (.cells #[.string t1, .string y1, .string t2, .string y2] 69)) ((w.alloc (.cells #[.string t1, .string y1, .string t2, .string y2] 69)).alloc (.cells #[.slice (some ⟨w.heap.size, 0, none⟩) 2 2, .float .f64 b] 42)) := (Below.refl _ _).alloc (Nat.le_refl _) _
  exact Sl.below (xs := [(t1, y1), (t2, y2)]) (Sl.lit h1 rfl rfl (by omega)) h2 (Nat.le_refl _)
set_option maxHeartbeats 8000000 in
theorem jknown_any (w : World) (ht : Tab w) : Calls Tryd.prog 28 #[] w fun e w' => e = .returned (.bool true) ∧ Below w.heap.size w w' := by
  obtain ⟨w2, hw2⟩ : ∃ w2, w2 = (w.alloc (.cells #[.string ⟨#[95, 95, 110, 97, 109, 101, 95, 95]⟩, .string ⟨#[109]⟩, .string ⟨#[97]⟩, .string ⟨#[49]⟩] 69)).alloc (.cells #[.slice (some ⟨w.heap.size, 0, none⟩) 2 2, .float .f64 F2] 42) := ⟨_, rfl⟩
  have hb2 : Below w.heap.size w w2 := by rw [hw2]; exact ((Below.refl _ _).alloc (Nat.le_refl _) _).alloc (by simp) _
  have hvs : VS w2 (.slice (some ⟨w.heap.size + 1, 0, none⟩) 1 1) kpA := by rw [hw2]; exact vs_one _ _ _ _ _ _
  have HN := Lib.hid (normal_any _ _ w2 hvs (by decide))
  have HB2 := Lib.hid hb2
  have HW2 := Lib.hid hw2
  have HT := Lib.hid ht
  clear hw2 hb2 hvs ht
  go_enter Tryd.func28, Tryd.ntmps28
  go_wp2_with fail
  rw [show (4611686018427387904 : Nat) = F2 from rfl, ← HW2.out]
  refine HN.out.mono ?_
  rintro e w4 ⟨hb4, hn⟩
  obtain ⟨v4, rfl, hv4⟩ := nr_known kpA_right kpA_canon (strict_one _) hn
  have HB4 := Lib.hid (HB2.out.trans (hb4.mono HB2.out.size))
  obtain ⟨w5, hw5⟩ : ∃ w5, w5 = (w4.alloc (.cells #[.string ⟨#[95, 95, 110, 97, 109, 101, 95, 95]⟩, .string ⟨#[110]⟩, .string ⟨#[97]⟩, .string ⟨#[49]⟩] 69)).alloc (.cells #[.slice (some ⟨w4.heap.size, 0, none⟩) 2 2, .float .f64 F3] 42) := ⟨_, rfl⟩
  have hb5 : Below w4.heap.size w4 w5 := by rw [hw5]; exact ((Below.refl _ _).alloc (Nat.le_refl _) _).alloc (by simp) _
  have hvs5 : VS w5 (.slice (some ⟨w4.heap.size + 1, 0, none⟩) 1 1) kpB := by rw [hw5]; exact vs_one _ _ _ _ _ _
  have HN5 := Lib.hid (normal_any _ _ w5 hvs5 (by decide))
  have HB5 := Lib.hid (HB4.out.trans (hb5.mono HB4.out.size))
  have HV5 := Lib.hid (hv4.below hb5 (Nat.le_refl _))
  have HW5 := Lib.hid hw5
  obtain ⟨a4, c4, rfl, hl4, -⟩ := hv4.split
  simp only [show kpA.length = 1 from rfl] at hl4 HV5 ⊢
  clear hb4 hn HN hv4 hb5 hw5 hvs5
  go_wp2_with fail
  rw [show (4613937818241073152 : Nat) = F3 from rfl, ← HW5.out]
  refine HN5.out.mono ?_
  rintro e w6 ⟨hb6, hn⟩
  obtain ⟨v6, rfl, hv6⟩ := nr_known kpB_right kpB_canon (strict_one _) hn
  have HB6 := Lib.hid (HB5.out.trans (hb6.mono HB5.out.size))
  have HVA := Lib.hid (HV5.out.below hb6 (Nat.le_refl _))
  have HVB := Lib.hid hv6
  obtain ⟨a6, c6, rfl, hl6, -⟩ := hv6.split
  simp only [show kpB.length = 1 from rfl] at hl6 HVB ⊢
  have HBIN := Lib.hid (bin_go 1 0 0 false (.slice none 0 0) (.slice none 0 0) _ _ [] [] kpA kpB w6 HVA.out HVB.out (Sl.nil _) (Sl.nil _) (fun s h => by cases h) (fun s h => by cases h) kpA_ok kpB_ok (by decide) (by decide) (HT.out.below HB6.out (Nat.le_refl _)))
  clear hb6 hn HN5 hv6 HV5
  go_wp2_with fail
  refine HBIN.out.mono ?_
  rintro e w7 ⟨hb7, hr7⟩
  have hr8 : NR kpC e w7 := by
    rcases hr7 with ⟨h, -⟩ | ⟨-, h, -⟩ | ⟨-, -, h⟩
    · rw [k_mchk] at h; omega
    · rw [show twiceB (sgP 0 []) kpA = false from twice_one _ _, show twiceB (sgP 0 []) kpB = false from twice_one _ _] at h
      simp at h
    · rw [k_bin] at h; exact h
  obtain ⟨v7, rfl, hv7⟩ := nr_known kpC_right kpC_canon (strict_one _) hr8
  have HB7 := Lib.hid (HB6.out.trans (hb7.mono HB6.out.size))
  obtain ⟨a7, c7, rfl, hl7, hc7⟩ := hv7.split
  obtain ⟨b7, off7, lv7, rfl, k7, k7v, s7⟩ := hc7 0 (by decide)
  obtain ⟨al7, cl7, rfl, -, -⟩ := s7.len lenc_pos
  have k7 : w7.cell? ⟨b7, off7, none⟩ = some (.slice al7 1 cl7) := by simpa [kpC, lbSum] using k7
  have k7v : w7.cell? ⟨b7, off7 + 1, none⟩ = some (.float .f64 F5) := by simpa [kpC] using k7v
  have HSET := Lib.hid (set_go 13 0 (.slice none 0 0) _ _ [] kpA kpB w7 (HVA.out.below hb7 (Nat.le_refl _)) (HVB.out.below hb7 (Nat.le_refl _)) (Sl.nil _) (fun s h => by cases h) kpA_ok kpB_ok (by decide) (by decide) (HT.out.below HB7.out (Nat.le_refl _)))
  have K7 := Lib.hid k7
  have K7v := Lib.hid k7v
  simp only [show kpC.length = 1 from rfl] at hl7 ⊢
  clear hb7 hr7 hr8 hv7 hc7 s7 k7 k7v HBIN
  go_wp2_with fail
  refine HSET.out.mono ?_
  rintro e w8 ⟨hb8, hr8⟩
  have hr9 : NR [] e w8 := by
    rcases hr8 with ⟨h, -⟩ | ⟨-, h⟩
    · rw [k_chk0] at h; omega
    · rw [k_set] at h; exact h
  obtain ⟨v8, rfl, hv8⟩ := nr_nil hr9
  obtain ⟨a8, c8, rfl, hl8, -⟩ := hv8.split
  simp only [List.length_nil] at hl8 ⊢
  have HB8 := Lib.hid (HB7.out.trans (hb8.mono HB7.out.size))
  have k7 := cell_below hb8 (Nat.le_refl _) K7.out
  have k7v : w8.cell? ⟨b7, off7 + 1, none⟩ = some (.float .f64 4617315517961601024) := cell_below hb8 (Nat.le_refl _) K7v.out
  have o5 : (FloatKind.f64.format.order 4617315517961601024 4617315517961601024 == some .eq) = true := by decide +kernel
  have HNM := Lib.hid (jnName_any 14 w8)
  rw [k_name] at HNM
  have HLV := Lib.hid (fun w => level_any 3 w)
  rw [show levelL 3 = 6 from rfl] at HLV
  clear hb8 hr8 hr9 hv8 HSET
  go_wp2_with fail
  refine HNM.out.mono ?_
  rintro e w9 ⟨rfl, hb9⟩
  have HB9 := Lib.hid (HB8.out.trans (hb9.mono HB8.out.size))
  clear hb9
  go_wp2_with fail
  refine (HLV.out _).mono ?_
  rintro e w10 ⟨rfl, rfl⟩
  go_wp2_with fail
  go_ret
  exact ⟨rfl, HB9.out⟩
end Go.Proofs.YtogjcaakfnfapaaDoor
namespace Go.Proofs.YtogjcaakfnfapaaDoor
open Go Go.RowKit Go.ChangeShapes Go.WideShapes Go.Joins Go.Deep
set_option linter.unusedVariables false
set_option linter.unusedSimpArgs false
set_option maxRecDepth 100000
theorem Tryd.cellsMa : Tryd.prog.cellsOf 55 = 4 := by kernel_rfl
section
variable {H : Type} {enc : TypeId × Value → H} {w : World} {base : Nat} {spare : Nat → Bool} {held : Bool}
theorem open_labels {r : Reach} {b0 : Nat} {v : Value} {d : DataW H} {ps : List MemPlace} (hval : Value.okWide Tryd.prog w r b0 40 v) (h : DataW.Trod enc Tryd.prog w base spare held 40 v d ps) : ∃ xs, Sl lenc w v xs := by
  obtain ⟨xs, h, _⟩ := open_sl Tryd.underlying40 Tryd.cellsLb (by decide) lenc_len elem_label hval h
  exact ⟨xs, h⟩
theorem open_match {r : Reach} {b0 : Nat} {v : Value} {d : DataW H} {ps : List MemPlace} (hval : Value.okWide Tryd.prog w r b0 55 v) (h : DataW.Trod enc Tryd.prog w base spare held 55 v d ps) : ∃ how u xs card ui ys, v = .agg #[.int .i64 how, u, .int .i64 card, ui] ∧ Sl senc1 w u xs ∧ Sl senc1 w ui ys := by
  obtain ⟨cs, rfl, hsz⟩ := okWide_struct Tryd.underlying55 hval
  obtain ⟨fuel, hf⟩ := h
  obtain ⟨y0, y1, y2, m, hx, hl, h0, h1, h2⟩ := trod_struct3 Tryd.underlying55 hf
  have hl3 : cs.toList.length = 4 := by simpa [Tryd.cellsMa] using hsz
  obtain ⟨l, rfl⟩ : ∃ l : List Value, cs = l.toArray := ⟨cs.toList, by simp⟩
  simp only [Value.cells] at h0 h1 h2
  simp only [List.toList_toArray] at hl3 h0 h1 h2
  match l, hl3 with
  | [c0, c1, c2, c3], _ =>
    simp [Tryd.cellsGr, Tryd.cellsI, Tryd.cellsStrs] at h0 h1 h2
    obtain ⟨z0, z1, m2, hx2, hl2, g0, g1⟩ := trod_struct2 Tryd.underlying24 h0
    obtain ⟨se, e0, _⟩ := DataW.trod_int Tryd.underlying3 g0
    obtain ⟨u, xs, e1, hs, _⟩ := open_sl_cs Tryd.underlying22 Tryd.cellsStr (by decide) senc1_len elem_str g1
    obtain ⟨sc, e2, _⟩ := DataW.trod_int Tryd.underlying3 h1
    obtain ⟨u2, ys, e3, hs2, _⟩ := open_sl_cs Tryd.underlying22 Tryd.cellsStr (by decide) senc1_len elem_str h2
    simp [Tryd.cellsI, Tryd.cellsStrs] at e0 e1 e2 e3
    subst e0 e1 e2 e3
    exact ⟨se, _, xs, sc, _, ys, rfl, hs, hs2⟩
end
end Go.Proofs.YtogjcaakfnfapaaDoor
namespace Go.Proofs.YtogjcaakfnfapaaDoor
open Go Go.RowKit
set_option linter.unusedVariables false
set_option linter.unusedSimpArgs false
set_option maxRecDepth 100000
set_option maxHeartbeats 16000000 in
theorem rmcheck_any (how card : Int) (vn vi : Value) (names incl : List ByteArray) (w : World) (hn : Sl senc1 w vn names) (hi : Sl senc1 w vi incl) :
    Calls Tryd.prog 42 #[.agg #[.int .i64 how, vn, .int .i64 card, vi]] w fun e w' => e = .returned (.int .i64 (mchkL how names card incl)) ∧ Below w.heap.size w w' := by
  have HN := Lib.hid hn
  have HI := Lib.hid hi
  obtain ⟨an, cn, rfl, hlen, -⟩ := hn.strings
  obtain ⟨ai, ci, rfl, hleni, hci⟩ := hi.strings
  have hc2 : ∀ k, k < incl.length → ∃ b off, ai = some ⟨b, off, none⟩ ∧ w.cell? ⟨b, off + k, none⟩ = some (.string (nx incl k)) := fun k hk => by
    obtain ⟨b, off, e, hd⟩ := hci k hk
    exact ⟨b, off, e, by rw [hd k hk, nx_at hk]⟩
  have HC := Lib.hid hc2
  clear hn hi hci hc2
  obtain ⟨nn, hnn⟩ : ∃ n, n = names.length := ⟨_, rfl⟩
  rw [← hnn] at HN hlen ⊢
  obtain ⟨ni, hni⟩ : ∃ n, n = incl.length := ⟨_, rfl⟩
  rw [← hni] at HI hleni ⊢
  have HNI := Lib.hid hni
  clear hnn hni
  obtain ⟨w1, hw1⟩ : ∃ w1, w1 = w.alloc (.cells #[.int .i64 how, .slice an nn cn, .int .i64 card, .slice ai ni ci] 55) := ⟨_, rfl⟩
  obtain ⟨mb, hmb⟩ : ∃ b, b = w.heap.size := ⟨_, rfl⟩
  have Q0 := Lib.hid (show w1.cell? ⟨mb, 0, none⟩ = some (.int .i64 how) by rw [hw1, hmb]; simp)
  have Q1 := Lib.hid (show w1.cell? ⟨mb, 1, none⟩ = some (.slice an nn cn) by rw [hw1, hmb]; simp)
  have Q2 := Lib.hid (show w1.cell? ⟨mb, 2, none⟩ = some (.int .i64 card) by rw [hw1, hmb]; simp)
  have Q3 := Lib.hid (show w1.cell? ⟨mb, 3, none⟩ = some (.slice ai ni ci) by rw [hw1, hmb]; simp)
  have HB1 := Lib.hid (show Below w.heap.size w w1 by rw [hw1]; exact (Below.refl _ _).alloc (Nat.le_refl _) _)
  have HW1 := Lib.hid hw1
  have HMB := Lib.hid hmb
  have HCK := Lib.hid (rcheck_any how _ names w1 (HN.out.below HB1.out (Nat.le_refl _)))
  clear hw1 hmb
  obtain ⟨r, hr⟩ : ∃ r, r = mchkL how names card incl := ⟨_, rfl⟩
  rw [← hr]
  have HR := Lib.hid hr
  obtain ⟨ck, hck⟩ : ∃ c, c = chkL how names := ⟨_, rfl⟩
  rw [← hck] at HCK
  by_cases hc0 : ck = 0
  · subst hc0
    have HCK0 := Lib.hid hck
    clear hck
    by_cases h1 : card < 0
    · rw [mchk_bad (.inr (.inl h1))] at hr
      subst hr
      go_enter Tryd.func42, Tryd.ntmps42
      go_wp2_with fail
      rw [← HW1.out, ← HMB.out]
      refine HCK.out.mono ?_
      rintro e w2 ⟨rfl, hb2⟩
      have q0 := cell_below hb2 (Nat.le_refl _) Q0.out
      have q1 := cell_below hb2 (Nat.le_refl _) Q1.out
      have q2 := cell_below hb2 (Nat.le_refl _) Q2.out
      have q3 := cell_below hb2 (Nat.le_refl _) Q3.out
      have HB2 := Lib.hid (HB1.out.trans (hb2.mono HB1.out.size))
      clear hb2
      go_wp2_with fail
      go_ret
      exact ⟨rfl, HB2.out⟩
    · have h1' : 0 ≤ card := by omega
      clear h1
      by_cases h2 : 2 < card
      · rw [mchk_bad (.inr (.inr (.inl h2)))] at hr
        subst hr
        go_enter Tryd.func42, Tryd.ntmps42
        go_wp2_with fail
        rw [← HW1.out, ← HMB.out]
        refine HCK.out.mono ?_
        rintro e w2 ⟨rfl, hb2⟩
        have q0 := cell_below hb2 (Nat.le_refl _) Q0.out
        have q1 := cell_below hb2 (Nat.le_refl _) Q1.out
        have q2 := cell_below hb2 (Nat.le_refl _) Q2.out
        have q3 := cell_below hb2 (Nat.le_refl _) Q3.out
        have HB2 := Lib.hid (HB1.out.trans (hb2.mono HB1.out.size))
        clear hb2
        go_wp2_with fail
        go_ret
        exact ⟨rfl, HB2.out⟩
      · have h2' : card ≤ 2 := by omega
        clear h2
        by_cases h32 : 32 < ni
        · have h5 : (32 : Int) < (ni : Int) := by omega
          rw [mchk_bad (.inr (.inr (.inr (.inr (.inl (by unfold onceL; rw [← HNI.out, decide_eq_false (by omega)]; rfl))))))] at hr
          subst hr
          go_enter Tryd.func42, Tryd.ntmps42
          go_wp2_with fail
          rw [← HW1.out, ← HMB.out]
          refine HCK.out.mono ?_
          rintro e w2 ⟨rfl, hb2⟩
          have q0 := cell_below hb2 (Nat.le_refl _) Q0.out
          have q1 := cell_below hb2 (Nat.le_refl _) Q1.out
          have q2 := cell_below hb2 (Nat.le_refl _) Q2.out
          have q3 := cell_below hb2 (Nat.le_refl _) Q3.out
          have HB2 := Lib.hid (HB1.out.trans (hb2.mono HB1.out.size))
          clear hb2
          go_wp2_with fail
          go_ret
          exact ⟨rfl, HB2.out⟩
        · have h32' : ni ≤ 32 := by omega
          have h32z : (ni : Int) ≤ 32 := by omega
          have H32 := Lib.hid h32'
          have HCD := Lib.hid (show 0 ≤ card ∧ card ≤ 2 from ⟨h1', h2'⟩)
          clear h32
          by_cases h3 : card = 0 ∧ 0 < ni
          · obtain ⟨rfl, h4⟩ := h3
            have h5 : (0 : Int) < (ni : Int) := by omega
            rw [mchk_bad (.inr (.inr (.inr (.inl ⟨rfl, by rw [← HNI.out]; exact h4⟩))))] at hr
            subst hr
            go_enter Tryd.func42, Tryd.ntmps42
            go_wp2_with fail
            rw [← HW1.out, ← HMB.out]
            refine HCK.out.mono ?_
            rintro e w2 ⟨rfl, hb2⟩
            have q0 := cell_below hb2 (Nat.le_refl _) Q0.out
            have q1 := cell_below hb2 (Nat.le_refl _) Q1.out
            have q2 := cell_below hb2 (Nat.le_refl _) Q2.out
            have q3 := cell_below hb2 (Nat.le_refl _) Q3.out
            have HB2 := Lib.hid (HB1.out.trans (hb2.mono HB1.out.size))
            clear hb2
            go_wp2_with fail
            go_ret
            exact ⟨rfl, HB2.out⟩
          · have HCZ := Lib.hid h3
            have b1 : decide (card < 0) = false := decide_eq_false (by omega)
            have b2 : decide (2 < card) = false := decide_eq_false (by omega)
            have b3 : decide ((32 : Int) < (ni : Int)) = false := decide_eq_false (by omega)
            by_cases h5 : card = 0
            · subst h5
              obtain rfl : ni = 0 := by omega
              clear h3 b1 b2 b3 hr
              go_enter Tryd.func42, Tryd.ntmps42
              go_wp2_with fail
              rw [← HW1.out, ← HMB.out]
              refine HCK.out.mono ?_
              rintro e w2 ⟨rfl, hb2⟩
              have q0 := cell_below hb2 (Nat.le_refl _) Q0.out
              have q1 := cell_below hb2 (Nat.le_refl _) Q1.out
              have q2 := cell_below hb2 (Nat.le_refl _) Q2.out
              have q3 := cell_below hb2 (Nat.le_refl _) Q3.out
              have HB2 := Lib.hid (HB1.out.trans (hb2.mono HB1.out.size))
              clear hb2
              go_wp2_with fail
              go_loopw [4] (fun i wr => ∃ k : Nat, k ≤ 0 ∧ i = .int .i64 k ∧ Hid (∀ j, j < k → newN incl j = true ∧ (how = 1 → hasL names (nx incl j) = false)) ∧ wr = w2) (fun i _ => 0 - (intOf i).toNat)
              case atStart => exact ⟨0, Nat.zero_le _, rfl, (fun j h => absurd h (Nat.not_lt_zero _)), rfl⟩
              case round =>
                obtain ⟨k, hk, rfl, HJ, rfl⟩ := hrel
                obtain rfl : k = 0 := by omega
                have HF := Lib.hid (show r = 0 by
                  rw [HR.out]
                  have h9 : onceL incl = true := once_yes (by rw [← HNI.out]; exact H32.out) (fun j hj => (HJ.out j (by have := HNI.out; omega)).1)
                  have h10 : how = 1 → incl.any (hasL names) = false := fun h => by
                    rw [List.any_eq_false]
                    intro s hs
                    obtain ⟨j, hj, rfl⟩ := List.mem_iff_getElem.1 hs
                    have := (HJ.out j (by have := HNI.out; omega)).2 h
                    rw [nx_at hj] at this
                    simp [this]
                  refine mchk_ok fun h => ?_
                  rcases h with h | h | h | h | h | h
                  · exact h HCK0.out.symm
                  · have := HCD.out; omega
                  · have := HCD.out; omega
                  · have := HCZ.out; have := HNI.out; omega
                  · rw [h9] at h; cases h
                  · rw [h10 h.1] at h; cases h.2)
                go_wp2_with fail
                go_ret
                exact ⟨by rw [HF.out] <;> rfl, HB2.out⟩
            · have h6 : (card == 0) = false := by simpa using h5
              clear h3 h5 hr
              go_enter Tryd.func42, Tryd.ntmps42
              go_wp2_with fail
              rw [← HW1.out, ← HMB.out]
              refine HCK.out.mono ?_
              rintro e w2 ⟨rfl, hb2⟩
              have q0 := cell_below hb2 (Nat.le_refl _) Q0.out
              have q1 := cell_below hb2 (Nat.le_refl _) Q1.out
              have q2 := cell_below hb2 (Nat.le_refl _) Q2.out
              have q3 := cell_below hb2 (Nat.le_refl _) Q3.out
              have HB2 := Lib.hid (HB1.out.trans (hb2.mono HB1.out.size))
              clear hb2
              go_wp2_with fail
              go_loopw [4] (fun i wr => ∃ k : Nat, k ≤ ni ∧ i = .int .i64 k ∧ Hid (∀ j, j < k → newN incl j = true ∧ (how = 1 → hasL names (nx incl j) = false)) ∧ wr = w2) (fun i _ => ni - (intOf i).toNat)
              case atStart => exact ⟨0, Nat.zero_le _, rfl, (fun j h => absurd h (Nat.not_lt_zero _)), rfl⟩
              case round =>
                obtain ⟨k, hk, rfl, HJ, rfl⟩ := hrel
                have h00 : (0 : Int) ≤ (k : Int) := by omega
                by_cases hlt : k < ni
                · have hltz : (k : Int) < (ni : Int) := by omega
                  obtain ⟨b, off, rfl, q⟩ := HC.out k (by have := HNI.out; omega)
                  have q9 := cell_below HB2.out (Nat.le_refl _) q
                  obtain ⟨x, hx⟩ : ∃ x, x = nx incl k := ⟨_, rfl⟩
                  rw [← hx] at q9
                  have hxm : x ∈ incl := by rw [hx, nx_at (by have := HNI.out; omega)]; exact List.getElem_mem _
                  obtain ⟨nb, hnb⟩ : ∃ q, q = nameB x := ⟨_, rfl⟩
                  have HNM := Lib.hid (fun w => rname_qs x w)
                  rw [← hnb] at HNM
                  obtain ⟨hs, hhs⟩ : ∃ q, q = hasL (incl.take k) x := ⟨_, rfl⟩
                  obtain ⟨a1, c1, hsl, hsl2⟩ := Sl.head (T := 22) Tryd.elemStrs Tryd.sizeStr senc1_len HI.out (k := k) (by have := HNI.out; omega)
                  have HHS := Lib.hid (rhas_qs _ _ x wr (hsl2.below HB2.out (Nat.le_refl _)))
                  rw [← hhs] at HHS
                  obtain ⟨hh, hhh⟩ : ∃ q, q = hasL names x := ⟨_, rfl⟩
                  have HHN := Lib.hid (rhas_qs _ _ x wr (HN.out.below HB2.out (Nat.le_refl _)))
                  rw [← hhh] at HHN
                  have HNW := Lib.hid (show newN incl k = (nb && !hs) by rw [newN, ← hx, hnb, hhs])
                  have HXM := Lib.hid hxm
                  have HX := Lib.hid hx
                  have HHH := Lib.hid hhh
                  clear q hx hxm hnb hhs hhh hsl2
                  cases nb with
                  | false =>
                    have HF := Lib.hid (show r = 1 by rw [HR.out]; exact mchk_bad (.inr (.inr (.inr (.inr (.inl (once_no (k := k) (by have := HNI.out; omega) (by rw [HNW.out]; rfl))))))))
                    go_wp2_with fail
                    refine (HNM.out _).mono ?_
                    rintro e w3 ⟨rfl, rfl⟩
                    go_wp2_with fail
                    go_ret
                    exact ⟨by rw [HF.out] <;> rfl, HB2.out⟩
                  | true =>
                    cases hs with
                    | true =>
                      have HF := Lib.hid (show r = 1 by rw [HR.out]; exact mchk_bad (.inr (.inr (.inr (.inr (.inl (once_no (k := k) (by have := HNI.out; omega) (by rw [HNW.out]; rfl))))))))
                      go_wp2_with fail
                      refine (HNM.out _).mono ?_
                      rintro e w3 ⟨rfl, rfl⟩
                      go_wp2_with fail
                      refine HHS.out.mono ?_
                      rintro e w4 ⟨rfl, rfl⟩
                      go_wp2_with fail
                      go_ret
                      exact ⟨by rw [HF.out] <;> rfl, HB2.out⟩
                    | false =>
                      by_cases h7 : how = 1
                      · have h8 : (how == 1) = true := by simpa using h7
                        have H7 := Lib.hid h7
                        clear h7
                        cases hh with
                        | true =>
                          have HF := Lib.hid (show r = 1 by rw [HR.out]; exact mchk_bad (.inr (.inr (.inr (.inr (.inr ⟨H7.out, List.any_eq_true.2 ⟨x, HXM.out, HHH.out.symm⟩⟩))))))
                          go_wp2_with fail
                          refine (HNM.out _).mono ?_
                          rintro e w3 ⟨rfl, rfl⟩
                          go_wp2_with fail
                          refine HHS.out.mono ?_
                          rintro e w4 ⟨rfl, rfl⟩
                          go_wp2_with fail
                          refine HHN.out.mono ?_
                          rintro e w5 ⟨rfl, rfl⟩
                          go_wp2_with fail
                          go_ret
                          exact ⟨by rw [HF.out] <;> rfl, HB2.out⟩
                        | false =>
                          go_wp2_with fail
                          refine (HNM.out _).mono ?_
                          rintro e w3 ⟨rfl, rfl⟩
                          go_wp2_with fail
                          refine HHS.out.mono ?_
                          rintro e w4 ⟨rfl, rfl⟩
                          go_wp2_with fail
                          refine HHN.out.mono ?_
                          rintro e w5 ⟨rfl, rfl⟩
                          go_wp2_with fail
                          go_roundw
                          case rel => exact ⟨k + 1, by omega, by go_num, (fun j hj => by
                            by_cases e : j = k
                            · subst e; exact ⟨HNW.out, fun _ => by rw [← HX.out]; exact HHH.out.symm⟩
                            · exact HJ.out j (by omega)), by trivial⟩
                          case measure => simp [intOf]; omega
                      · have h8 : (how == 1) = false := by simpa using h7
                        have H7 := Lib.hid h7
                        clear h7
                        go_wp2_with fail
                        refine (HNM.out _).mono ?_
                        rintro e w3 ⟨rfl, rfl⟩
                        go_wp2_with fail
                        refine HHS.out.mono ?_
                        rintro e w4 ⟨rfl, rfl⟩
                        go_wp2_with fail
                        go_roundw
                        case rel => exact ⟨k + 1, by omega, by go_num, (fun j hj => by
                          by_cases e : j = k
                          · subst e; exact ⟨HNW.out, fun h => absurd h H7.out⟩
                          · exact HJ.out j (by omega)), by trivial⟩
                        case measure => simp [intOf]; omega
                · have hltz : ¬ (k : Int) < (ni : Int) := by omega
                  have HF := Lib.hid (show r = 0 by
                    rw [HR.out]
                    have h9 : onceL incl = true := once_yes (by rw [← HNI.out]; exact H32.out) (fun j hj => (HJ.out j (by have := HNI.out; omega)).1)
                    have h10 : how = 1 → incl.any (hasL names) = false := fun h => by
                      rw [List.any_eq_false]
                      intro s hs
                      obtain ⟨j, hj, rfl⟩ := List.mem_iff_getElem.1 hs
                      have := (HJ.out j (by have := HNI.out; omega)).2 h
                      rw [nx_at hj] at this
                      simp [this]
                    refine mchk_ok fun h => ?_
                    rcases h with h | h | h | h | h | h
                    · exact h HCK0.out.symm
                    · have := HCD.out; omega
                    · have := HCD.out; omega
                    · have := HCZ.out; have := HNI.out; omega
                    · rw [h9] at h; cases h
                    · rw [h10 h.1] at h; cases h.2)
                  go_wp2_with fail
                  go_ret
                  exact ⟨by rw [HF.out] <;> rfl, HB2.out⟩
  · have hck1 : ck = 1 := by rw [hck]; exact chk_one (by rw [← hck]; exact hc0)
    rw [mchk_bad (.inl (by rw [← hck]; exact hc0))] at hr
    subst hr hck1
    clear hck hc0
    go_enter Tryd.func42, Tryd.ntmps42
    go_wp2_with fail
    rw [← HW1.out, ← HMB.out]
    refine HCK.out.mono ?_
    rintro e w2 ⟨rfl, hb2⟩
    have q0 := cell_below hb2 (Nat.le_refl _) Q0.out
    have q1 := cell_below hb2 (Nat.le_refl _) Q1.out
    have q2 := cell_below hb2 (Nat.le_refl _) Q2.out
    have q3 := cell_below hb2 (Nat.le_refl _) Q3.out
    have HB2 := Lib.hid (HB1.out.trans (hb2.mono HB1.out.size))
    clear hb2
    go_wp2_with fail
    go_ret
    exact ⟨rfl, HB2.out⟩
end Go.Proofs.YtogjcaakfnfapaaDoor
namespace Go.Proofs.YtogjcaakfnfapaaDoor
open Go Go.RowKit
set_option linter.unusedVariables false
set_option linter.unusedSimpArgs false
set_option maxRecDepth 100000
set_option maxHeartbeats 2000000 in
theorem same1_any (v1 v2 : Value) (b1 b2 : Nat) (l1 l2 : List Lb) (w : World) (h1 : Sl lenc w v1 l1) (h2 : Sl lenc w v2 l2) :
    Calls Tryd.prog 84 #[.agg #[v1, .float .f64 b1], .agg #[v2, .float .f64 b2]] w fun e w' => e = .returned (.bool (cmpL l1 l2 == 0 && fsame b1 b2)) ∧ Below w.heap.size w w' := by
  have HC := Lib.hid (fun w' (hb : Below w.heap.size w w') => compare_any v1 v2 l1 l2 w' (h1.below hb (Nat.le_refl _)) (h2.below hb (Nat.le_refl _)))
  obtain ⟨a1, cap1, rfl, -, -⟩ := h1
  obtain ⟨a2, cap2, rfl, -, -⟩ := h2
  obtain ⟨n1, hn1⟩ : ∃ n, n = l1.length := ⟨_, rfl⟩
  obtain ⟨n2, hn2⟩ : ∃ n, n = l2.length := ⟨_, rfl⟩
  rw [← hn1, ← hn2] at HC ⊢
  clear hn1 hn2
  obtain ⟨c, hc⟩ : ∃ c, c = cmpL l1 l2 := ⟨_, rfl⟩
  rw [← hc] at HC ⊢
  clear hc
  by_cases h0 : c = 0
  case' pos => have h0b : (c == 0) = true := by simpa using h0
  case' neg => have h0b : (c == 0) = false := by simpa using h0
  all_goals
    rw [h0b]
    go_enter Tryd.func84, Tryd.ntmps84
    go_wp2_with fail
    refine (HC.out _ (((Below.refl _ _).alloc (Nat.le_refl _) _).alloc (by simp) _)).mono ?_
    rintro e w1 ⟨rfl, hg⟩
    have q1 : w1.cell? ⟨w.heap.size, 1, none⟩ = some (.float .f64 b1) := cell_below hg.below (Nat.le_refl _) (by simp)
    have q2 : w1.cell? ⟨w.heap.size + 1, 1, none⟩ = some (.float .f64 b2) := cell_below hg.below (Nat.le_refl _) (by simp)
    have HG := Lib.hid (show Below w.heap.size w w1 from (((Below.refl _ _).alloc (Nat.le_refl _) _).alloc (by simp) _).trans (hg.below.mono (by simp; omega)))
    clear hg
    go_wp2_with (go_at_call 85; refine (same_any _ _ _).mono ?_; rintro e w2 ⟨rfl, rfl⟩)
    go_ret
    exact ⟨rfl, HG.out⟩
set_option maxHeartbeats 4000000 in
theorem vequal_any (v u : Value) (ps qs : List Pt) (w : World) (h : VS w v ps) (h' : VS w u qs) :
    Calls Tryd.prog 83 #[v, u, .func (.func 84) #[] #[]] w fun e w' => e = .returned (.bool (vsameL ps qs)) ∧ Below w.heap.size w w' := by
  obtain ⟨a, cap, rfl, hlen, hc⟩ := h.split
  obtain ⟨a2, cap2, rfl, hlen2, hc2⟩ := h'.split
  have HC := Lib.hid hc
  have HC2 := Lib.hid hc2
  clear hc hc2 h h'
  by_cases hl : ps.length = qs.length
  · have HL := Lib.hid hl
    obtain ⟨N, hN⟩ : ∃ N, N = ps.length := ⟨_, rfl⟩
    have hN2 : N = qs.length := hN.trans hl
    have HN := Lib.hid hN
    have HN2 := Lib.hid hN2
    rw [← hN] at hlen ⊢
    rw [← hN2] at hlen2 ⊢
    clear hl hN hN2
    go_enter Tryd.func83, Tryd.ntmps83
    go_wp2_with fail
    go_loopw [17] (fun i wr => ∃ (k : Nat), k ≤ N ∧ i = .int .i64 k ∧ Hid (∀ j (hj : j < ps.length) (hj2 : j < qs.length), j < k → cmpL ps[j].1 qs[j].1 = 0 ∧ fsame ps[j].2 qs[j].2 = true) ∧ Hid (Below w.heap.size w wr)) (fun i _ => N - (intOf i).toNat)
    case atStart => exact ⟨0, Nat.zero_le _, rfl, fun j _ _ hj => absurd hj (Nat.not_lt_zero _), Below.refl _ _⟩
    case round =>
      obtain ⟨k, hk, rfl, HV, HB⟩ := hrel
      have hBz := HB.out.size
      have h00 : (0 : Int) ≤ (k : Int) := by omega
      by_cases hlt : k < N
      · have hltz : (k : Int) < (N : Int) := by omega
        have hp : k < ps.length := by rw [← HN.out]; exact hlt
        have hq : k < qs.length := by rw [← HN2.out]; exact hlt
        obtain ⟨b, off, lv, rfl, k0, k1, hsl⟩ := HC.out k hp
        obtain ⟨b2, off2, lv2, rfl, k2, k3, hsl2⟩ := HC2.out k hq
        have p0 := cell_below HB.out (Nat.le_refl _) k0
        have p1 := cell_below HB.out (Nat.le_refl _) k1
        have p2 := cell_below HB.out (Nat.le_refl _) k2
        have p3 := cell_below HB.out (Nat.le_refl _) k3
        obtain ⟨x, hx⟩ : ∃ x, x = ps[k].2 := ⟨_, rfl⟩
        obtain ⟨y, hy⟩ : ∃ y, y = qs[k].2 := ⟨_, rfl⟩
        have HS1 := Lib.hid (fun w' (hb : Below w.heap.size w w') => same1_any lv lv2 ps[k].2 qs[k].2 ps[k].1 qs[k].1 w' (hsl.below hb (Nat.le_refl _)) (hsl2.below hb (Nat.le_refl _)))
        obtain ⟨a3, n3, c3, rfl⟩ : ∃ a n c, lv = .slice a n c := by
          obtain ⟨a2, c2, e, -⟩ := hsl
          exact ⟨a2, _, c2, e⟩
        obtain ⟨a4, n4, c4, rfl⟩ : ∃ a n c, lv2 = .slice a n c := by
          obtain ⟨a2, c2, e, -⟩ := hsl2
          exact ⟨a2, _, c2, e⟩
        have hlt2 : b2 < wr.heap.size := World.block_lt_of_cell? wr _ p2
        have hne : b2 ≠ wr.heap.size := by omega
        obtain ⟨r, hr⟩ : ∃ r, r = (cmpL ps[k].1 qs[k].1 == 0 && fsame ps[k].2 qs[k].2) := ⟨_, rfl⟩
        rw [← hr, ← hx, ← hy] at HS1
        rw [← hx] at p1
        rw [← hy] at p3
        have HRR := Lib.hid hr
        clear hsl hsl2 k0 k1 k2 k3 hx hy hr
        have HB2 := Lib.hid (show ∀ o1 o2, Below w.heap.size w ((wr.alloc o1).alloc o2) from fun o1 o2 => (HB.out.alloc hBz _).alloc (by simp; omega) _)
        cases r with
        | false =>
          have HF := Lib.hid (vsame_no (ps := ps) (qs := qs) fun h => by
            have h1 := h.2 k hp hq
            have h2 := HRR.out
            rw [h1.1, h1.2] at h2
            cases h2)
          go_wp2_with fail
          refine (HS1.out _ (HB2.out _ _)).mono ?_
          rintro e w3 ⟨rfl, hb3⟩
          have HB3 := Lib.hid ((HB2.out _ _).trans (hb3.mono (by simp; omega)))
          clear hb3
          go_wp2_with fail
          go_ret
          exact ⟨by rw [HF.out] <;> rfl, HB3.out⟩
        | true =>
          go_wp2_with fail
          refine (HS1.out _ (HB2.out _ _)).mono ?_
          rintro e w3 ⟨rfl, hb3⟩
          have HB3 := Lib.hid ((HB2.out _ _).trans (hb3.mono (by simp; omega)))
          clear hb3
          go_wp2_with fail
          go_roundw
          case rel => exact ⟨k + 1, by omega, by go_num, (fun j hj hj2 hj1 => by
            by_cases hjk : j = k
            · subst hjk
              have h2 := HRR.out.symm
              rw [Bool.and_eq_true] at h2
              exact ⟨by simpa using h2.1, h2.2⟩
            · exact HV.out j hj hj2 (by omega)), HB3.out⟩
          case measure => simp [intOf]; omega
      · have hltz : ¬ (k : Int) < (N : Int) := by omega
        have HF := Lib.hid (show vsameL ps qs = true from vsame_yes ⟨HL.out, fun j hj hj2 => HV.out j hj hj2 (by have := HN.out; omega)⟩)
        go_wp2_with fail
        go_ret
        exact ⟨by rw [HF.out] <;> rfl, HB.out⟩
  · have HF := Lib.hid (vsame_no (ps := ps) (qs := qs) fun h => hl h.1)
    have hz : ¬ (ps.length : Int) = (qs.length : Int) := by omega
    have hzb : ((ps.length : Int) == (qs.length : Int)) = false := by simpa using hz
    have hzc : ((ps.length : Int) != (qs.length : Int)) = true := by simpa using hz
    go_enter Tryd.func83, Tryd.ntmps83
    go_wp2_with fail
    go_ret
    exact ⟨by rw [HF.out] <;> rfl, Below.refl _ _⟩
theorem csame_any (v u : Value) (ps qs : List Pt) (w : World) (h : VS w v ps) (h' : VS w u qs) :
    Calls Tryd.prog 45 #[v, u] w fun e w' => e = .returned (.bool (vsameL ps qs)) ∧ Below w.heap.size w w' := by
  have HE := Lib.hid (vequal_any v u ps qs w h h')
  clear h h'
  go_enter Tryd.func45, Tryd.ntmps45
  go_wp2_with fail
  refine HE.out.mono ?_
  rintro e w1 ⟨rfl, hb⟩
  have HB := Lib.hid hb
  clear hb
  go_wp2_with fail
  go_ret
  exact ⟨rfl, HB.out⟩
theorem Tryd.elemVec : Tryd.prog.underlying 27 = some (.slice (Tryd.prog.elem 27)) := by kernel_rfl
theorem Tryd.sizeVec (w : World) : (sizeOf (Tryd.prog.elem 27)).run Tryd.prog w = .ok 2 w := by rfl
theorem VS.one {w : World} {a : Option Addr} {n cap : Nat} {ps : List Pt} (h : VS w (.slice a n cap) ps) {k : Nat} (hk : k < ps.length) :
    ∃ a1 c1, (∀ W : World, (Instr.slice 27 (.slice a n cap) (some (.int .i64 (k : Int))) (some (.int .i64 ((k : Int) + 1))) none).run Tryd.prog W = .ok (.slice a1 1 c1) W) ∧ VS w (.slice a1 1 c1) [ps[k]] := by
  obtain ⟨a0, cap0, e, hm, hc⟩ := h.split
  injection e with e1 e2 e3
  subst e1 e2 e3
  obtain ⟨b, off, lv, rfl, k0, k1, hs⟩ := hc k hk
  refine ⟨some ⟨b, off + k * 2, none⟩, cap - k, fun W => ?_, ?_⟩
  · rw [run_slice_lh W 27 (some ⟨b, off, none⟩) ps.length cap Tryd.elemVec .i64 .i64 k ((k : Int) + 1) (by omega) (by omega) (by omega), Tryd.sizeVec]
    have e1 : ((k : Int) + 1).toNat = k + 1 := by omega
    simp only [Result.andThen, sliced, Int.toNat_natCast, e1]
    rw [if_neg (by omega), show k + 1 - k = 1 by omega]
    simp [Addr.add_lit]
  · refine ⟨[(lv, ps[k].2)], ⟨_, _, rfl, ⟨by simp; omega, by omega⟩, (fun e => by cases e), fun _ => ⟨b, off + k * 2, rfl, fun j u hu => ?_⟩⟩, rfl, fun i hi hi2 => ?_⟩
    · match j, hu with
      | 0, hu => simp [penc] at hu; subst hu; exact k0
      | 1, hu => simp [penc] at hu; subst hu; exact k1
    · have : i = 0 := by simp at hi; omega
      subst this
      exact ⟨hs, rfl⟩
end Go.Proofs.YtogjcaakfnfapaaDoor
