/- Names by number: Name, Named, both sides. How much an operator binds: both sides. known of chapter 11's laws: its walk. Openings of a match and of labels. Whether a match may be: the reference (printed by gen_jn11.py). The reference's joins: two points of one sign, a sign among some. (Several texts in one file, by merge.py.) -/
import Derived.Test.YtogjcaakfnfapaaGreatDoorZC10
import Derived.Test.YtogjcaakfnfapaaGreatDoorZC12
import Derived.Test.YtogjcaakfnfapaaGreatDoorZC14
import Derived.Test.YtogjcaakfnfapaaGreatDoorZC9
import Derived.Test.YtogjcaakfnfapaaGreatDoorZC11
namespace Go.Proofs.YtogjcaakfnfapaaGreatDoor
open Go Go.RowKit
set_option linter.unusedVariables false
set_option linter.unusedSimpArgs false
def jnNamesL : List ByteArray := [⟨#[]⟩, ⟨#[43]⟩, ⟨#[45]⟩, ⟨#[42]⟩, ⟨#[47]⟩, ⟨#[61, 61]⟩, ⟨#[33, 61]⟩, ⟨#[62]⟩, ⟨#[60]⟩, ⟨#[62, 61]⟩, ⟨#[60, 61]⟩, ⟨#[97, 110, 100]⟩, ⟨#[111, 114]⟩, ⟨#[117, 110, 108, 101, 115, 115]⟩, ⟨#[100, 101, 102, 97, 117, 108, 116]⟩]
set_option maxRecDepth 100000 in
theorem jnNames_any (w : World) : Calls Tryz.prog 50 #[] w fun e w' => ∃ v, e = .returned v ∧ Sl senc1 w' v jnNamesL ∧ Below w.heap.size w w' := by
  go_enter Tryz.func50, Tryz.ntmps50
  go_wp2
  go_ret
  exact ⟨_, rfl, Sl.lit (heap_new w _) rfl rfl (by decide), (Below.refl _ _).alloc (Nat.le_refl _) _⟩
def jnNameOf (fn : Int) : ByteArray := if 1 ≤ fn ∧ fn ≤ 14 then jnNamesL.getD fn.toNat ⟨#[]⟩ else ⟨#[]⟩

set_option maxRecDepth 100000 in
theorem jnName_any (fn : Int) (w : World) : Calls Tryz.prog 17 #[.int .i64 fn] w fun e w' => e = .returned (.string (jnNameOf fn)) ∧ Below w.heap.size w w' := by
  by_cases h1 : 1 ≤ fn
  · by_cases h2 : fn ≤ 14
    · obtain ⟨n, rfl⟩ : ∃ n : Nat, fn = n := ⟨fn.toNat, by omega⟩
      have hnm : jnNameOf n = jnNamesL.getD n ⟨#[]⟩ := by unfold jnNameOf; rw [if_pos ⟨h1, h2⟩]; rfl
      have HN := Lib.hid hnm
      clear hnm
      go_enter Tryz.func17, Tryz.ntmps17
      go_wp2_with fail
      refine (jnNames_any _).mono ?_
      rintro e w1 ⟨v, rfl, hs, hb⟩
      obtain ⟨a, cap, rfl, hle, hc⟩ := hs.strings
      have hn : n < jnNamesL.length := by show n < 15; omega
      obtain ⟨b, off, rfl, hc⟩ := hc n hn
      have hc0 := hc n hn
      have hl : jnNamesL.length = 15 := rfl
      have HC := Lib.hid hc
      rw [hl] at hle ⊢
      clear hc hs hl
      go_wp2_with fail
      go_ret
      refine ⟨?_, hb⟩
      rw [HN.out, List.getD_eq_getElem?_getD, List.getElem?_eq_getElem hn]
      rfl
    · have HN := Lib.hid (show jnNameOf fn = ⟨#[]⟩ by unfold jnNameOf; rw [if_neg (by omega)])
      go_enter Tryz.func17, Tryz.ntmps17
      go_wp2_with fail
      go_ret
      exact ⟨by first | rfl | (rw [HN.out]; rfl), Below.refl _ _⟩
  · have HN := Lib.hid (show jnNameOf fn = ⟨#[]⟩ by unfold jnNameOf; rw [if_neg (by omega)])
    have h3 : fn < 1 := by omega
    go_enter Tryz.func17, Tryz.ntmps17
    go_wp2_with fail
    go_ret
    exact ⟨by first | rfl | (rw [HN.out]; rfl), Below.refl _ _⟩
def jnFind (s : ByteArray) : List ByteArray → Nat → Int
  | [], _ => -1
  | x :: l, k => if x.toList = s.toList then (k : Int) else jnFind s l (k + 1)
theorem jnFind_drop (s : ByteArray) (xs : List ByteArray) (k : Nat) (h : k < xs.length) : jnFind s (xs.drop k) k = if (xs[k]).toList = s.toList then (k : Int) else jnFind s (xs.drop (k + 1)) (k + 1) := by
  rw [List.drop_eq_getElem_cons h]; rfl

set_option maxHeartbeats 1000000 in
theorem jnIndex_any (v : Value) (xs : List ByteArray) (s : ByteArray) (w : World) (h : Sl senc1 w v xs) :
    Calls Tryz.prog 67 #[v, .string s] w fun e w' => e = .returned (.int .i64 (jnFind s xs 0)) ∧ w = w' := by
  obtain ⟨a, cap, rfl, ⟨hle, hcap⟩, hc⟩ := h.strings
  have HC := Lib.hid hc
  clear hc h
  go_enter Tryz.func67, Tryz.ntmps67
  go_wp2_with fail
  go_loopw [8] (fun i wr => ∃ k : Nat, k ≤ xs.length ∧ i = .int .i64 k ∧ jnFind s (xs.drop k) k = jnFind s xs 0 ∧ wr = w) (fun i _ => xs.length - (intOf i).toNat)
  case atStart => exact ⟨0, Nat.zero_le _, rfl, rfl, rfl⟩
  case round =>
    obtain ⟨k, hk, rfl, hv, rfl⟩ := hrel
    have HV := Lib.hid hv
    clear hv
    by_cases hlt : k < xs.length
    · obtain ⟨b, off, rfl, hcc⟩ := HC.out k hlt
      have hc0 := hcc k hlt
      have hd := jnFind_drop s xs k hlt
      obtain ⟨x, hx⟩ : ∃ x, x = xs[k] := ⟨_, rfl⟩
      rw [← hx] at hc0 hd
      clear hcc hx
      have hk0 : (0 : Int) ≤ (k : Int) := Int.natCast_nonneg _
      have hk1 : (k : Int) < (xs.length : Int) := by omega
      by_cases heq : x.toList = s.toList
      · rw [if_pos heq] at hd
        have b1 : (x.toList == s.toList) = true := by simpa using heq
        have b2 : (s.toList == x.toList) = true := by simpa using heq.symm
        have HD := Lib.hid hd
        clear hd heq
        go_wp2_with fail
        go_ret
        exact ⟨ret_i (by rw [← HV.out, HD.out]), rfl⟩
      · rw [if_neg heq] at hd
        have b1 : (x.toList == s.toList) = false := by simpa using heq
        have b2 : (s.toList == x.toList) = false := by simpa using (fun e => heq (Eq.symm e))
        have HD := Lib.hid hd
        clear hd heq
        go_wp2_with fail
        go_roundw
        case rel => exact ⟨k + 1, by omega, by go_num, by rw [← HV.out, HD.out], by trivial⟩
        case measure => simp [intOf]; omega
    · obtain rfl : k = xs.length := by omega
      go_wp2_with fail
      go_ret
      exact ⟨ret_i (by rw [← HV.out, List.drop_length]; rfl), rfl⟩

def jnNamedI (s : ByteArray) : Int × Bool := if jnFind s jnNamesL 0 < 1 then (0, false) else (jnFind s jnNamesL 0, true)
theorem jnFind_bd (s : ByteArray) (xs : List ByteArray) : ∀ k : Nat, -1 ≤ jnFind s xs k ∧ jnFind s xs k ≤ (k + xs.length : Nat) := by
  induction xs with
  | nil => intro k; simp [jnFind]
  | cons x xs ih =>
    intro k
    have := ih (k + 1)
    unfold jnFind
    split <;> (simp only [List.length_cons]; omega)
theorem Tryz.jnNamedEq (s : ByteArray) : jnNamedI s = if jnFind s (jnNamesL.drop 1) 1 < 0 then (0, false) else (jnFind s (jnNamesL.drop 1) 1, true) := by
  have h0 : jnFind s jnNamesL 0 = if (⟨#[]⟩ : ByteArray).toList = s.toList then 0 else jnFind s (jnNamesL.drop 1) 1 := rfl
  unfold jnNamedI
  by_cases he : (⟨#[]⟩ : ByteArray).toList = s.toList
  · have e : ∀ (l : List ByteArray) k, jnFind s l k = jnFind ⟨#[]⟩ l k := by
      intro l
      induction l with
      | nil => intro k; rfl
      | cons x l ih => intro k; unfold jnFind; rw [ih, he]
    rw [e, e]
    decide +kernel
  · rw [h0, if_neg he]
    have hp : jnFind s (jnNamesL.drop 1) 1 = -1 ∨ 1 ≤ jnFind s (jnNamesL.drop 1) 1 := by
      have : ∀ (l : List ByteArray) (k : Nat), 1 ≤ k → jnFind s l k = -1 ∨ 1 ≤ jnFind s l k := by
        intro l
        induction l with
        | nil => intro k _; exact .inl rfl
        | cons x l ih =>
          intro k hk
          unfold jnFind
          split
          · right; omega
          · exact ih (k + 1) (by omega)
      exact this _ 1 (by omega)
    rcases hp with h | h
    · rw [h]; rfl
    · rw [if_neg (by omega), if_neg (by omega)]

end Go.Proofs.YtogjcaakfnfapaaGreatDoor
namespace Go.Proofs.YtogjcaakfnfapaaGreatDoor
open Go Go.RowKit
set_option linter.unusedVariables false
set_option linter.unusedSimpArgs false
set_option maxRecDepth 100000
def levelL (op : Int) : Int := if op < 1 ∨ 14 < op then 0 else if op ≤ 2 then 5 else if op ≤ 4 then 6 else if op ≤ 10 then 4 else if op = 12 then 2 else if op = 14 then 1 else 3
theorem level_cases (op : Int) : (op < 1 ∨ 14 < op) ∨ ∃ k : Nat, 1 ≤ k ∧ k ≤ 14 ∧ op = k := by
  by_cases h : op < 1 ∨ 14 < op
  · exact .inl h
  · exact .inr ⟨op.toNat, by omega, by omega, by omega⟩
theorem level_any (op : Int) (w : World) : Calls Tryz.prog 18 #[.int .i64 op] w fun e w' => e = .returned (.int .i64 (levelL op)) ∧ w = w' := by
  rcases level_cases op with h | ⟨k, h1, h2, rfl⟩
  · rw [show levelL op = 0 by unfold levelL; rw [if_pos h]]
    have b1 : (op == 1) = false := by simp; omega
    have b2 : (op == 2) = false := by simp; omega
    have b3 : (op == 3) = false := by simp; omega
    have b4 : (op == 4) = false := by simp; omega
    have b5 : (op == 5) = false := by simp; omega
    have b6 : (op == 6) = false := by simp; omega
    have b7 : (op == 7) = false := by simp; omega
    have b8 : (op == 8) = false := by simp; omega
    have b9 : (op == 9) = false := by simp; omega
    have b10 : (op == 10) = false := by simp; omega
    have b11 : (op == 11) = false := by simp; omega
    have b12 : (op == 12) = false := by simp; omega
    have b13 : (op == 13) = false := by simp; omega
    have b14 : (op == 14) = false := by simp; omega
    rcases h with h | h
    · go_enter Tryz.func18, Tryz.ntmps18
      go_wp2_with fail
      go_ret
      exact ⟨rfl, rfl⟩
    · go_enter Tryz.func18, Tryz.ntmps18
      go_wp2_with fail
      go_ret
      exact ⟨rfl, rfl⟩
  · obtain rfl | rfl | rfl | rfl | rfl | rfl | rfl | rfl | rfl | rfl | rfl | rfl | rfl | rfl : k = 1 ∨ k = 2 ∨ k = 3 ∨ k = 4 ∨ k = 5 ∨ k = 6 ∨ k = 7 ∨ k = 8 ∨ k = 9 ∨ k = 10 ∨ k = 11 ∨ k = 12 ∨ k = 13 ∨ k = 14 := by omega
    · go_enter Tryz.func18, Tryz.ntmps18
      go_wp2_with fail
      go_ret
      exact ⟨rfl, rfl⟩
    · go_enter Tryz.func18, Tryz.ntmps18
      go_wp2_with fail
      go_ret
      exact ⟨rfl, rfl⟩
    · go_enter Tryz.func18, Tryz.ntmps18
      go_wp2_with fail
      go_ret
      exact ⟨rfl, rfl⟩
    · go_enter Tryz.func18, Tryz.ntmps18
      go_wp2_with fail
      go_ret
      exact ⟨rfl, rfl⟩
    · go_enter Tryz.func18, Tryz.ntmps18
      go_wp2_with fail
      go_ret
      exact ⟨rfl, rfl⟩
    · go_enter Tryz.func18, Tryz.ntmps18
      go_wp2_with fail
      go_ret
      exact ⟨rfl, rfl⟩
    · go_enter Tryz.func18, Tryz.ntmps18
      go_wp2_with fail
      go_ret
      exact ⟨rfl, rfl⟩
    · go_enter Tryz.func18, Tryz.ntmps18
      go_wp2_with fail
      go_ret
      exact ⟨rfl, rfl⟩
    · go_enter Tryz.func18, Tryz.ntmps18
      go_wp2_with fail
      go_ret
      exact ⟨rfl, rfl⟩
    · go_enter Tryz.func18, Tryz.ntmps18
      go_wp2_with fail
      go_ret
      exact ⟨rfl, rfl⟩
    · go_enter Tryz.func18, Tryz.ntmps18
      go_wp2_with fail
      go_ret
      exact ⟨rfl, rfl⟩
    · go_enter Tryz.func18, Tryz.ntmps18
      go_wp2_with fail
      go_ret
      exact ⟨rfl, rfl⟩
    · go_enter Tryz.func18, Tryz.ntmps18
      go_wp2_with fail
      go_ret
      exact ⟨rfl, rfl⟩
    · go_enter Tryz.func18, Tryz.ntmps18
      go_wp2_with fail
      go_ret
      exact ⟨rfl, rfl⟩
end Go.Proofs.YtogjcaakfnfapaaGreatDoor
namespace Go.Proofs.YtogjcaakfnfapaaGreatDoor
open Go Go.RowKit
set_option linter.unusedVariables false
set_option linter.unusedSimpArgs false
set_option maxRecDepth 100000
def knA : List Lb := [(⟨#[95, 95, 110, 97, 109, 101, 95, 95]⟩, ⟨#[109]⟩), (⟨#[97]⟩, ⟨#[49]⟩)]
def knB : List Lb := [(⟨#[95, 95, 110, 97, 109, 101, 95, 95]⟩, ⟨#[110]⟩), (⟨#[97]⟩, ⟨#[49]⟩)]
def kpA : List Pt := [(knA, F2)]
def kpB : List Pt := [(knB, F3)]
def kpC : List Pt := [(lbSum, F5)]
theorem kpA_right : ∀ p ∈ kpA, rightL p.1 = true := by decide +kernel
theorem kpB_right : ∀ p ∈ kpB, rightL p.1 = true := by decide +kernel
theorem kpC_right : ∀ p ∈ kpC, rightL p.1 = true := by decide +kernel
theorem kpA_canon : kpA.map canonP = kpA := by decide +kernel
theorem kpB_canon : kpB.map canonP = kpB := by decide +kernel
theorem kpC_canon : kpC.map canonP = kpC := by decide +kernel
theorem strict_one (p : Pt) : Strict [p] := List.pairwise_singleton _ _
theorem kpA_ok : ∀ p ∈ kpA, PtOk p := by
  intro p hp
  rw [kpA, List.mem_singleton] at hp
  subst hp
  refine ⟨by decide, ?_, by unfold FB F2; decide⟩
  intro x hx
  simp only [knA, List.mem_cons, List.not_mem_nil, or_false] at hx
  rcases hx with rfl | rfl <;> decide
theorem kpB_ok : ∀ p ∈ kpB, PtOk p := by
  intro p hp
  rw [kpB, List.mem_singleton] at hp
  subst hp
  refine ⟨by decide, ?_, by unfold FB F3; decide⟩
  intro x hx
  simp only [knB, List.mem_cons, List.not_mem_nil, or_false] at hx
  rcases hx with rfl | rfl <;> decide
theorem k_bin : binP 1 0 0 [] [] false kpA kpB = kpC := by decide +kernel
theorem k_set : setP 13 0 [] kpA kpB = [] := by decide +kernel
theorem k_mchk : mchkL 0 [] 0 [] = 0 := by decide +kernel
theorem k_chk0 : chkL 0 [] = 0 := by decide +kernel
theorem twice_one {β : Type} (gl : β → List Lb) (z : β) : twiceB gl [z] = false := by simp [twiceB]
theorem k_name : jnNameOf 14 = ⟨#[100, 101, 102, 97, 117, 108, 116]⟩ := by decide +kernel
theorem nr_nil {e : Ending} {w : World} (h : NR [] e w) : ∃ v', e = .returned (.tuple #[v', .int .i64 0]) ∧ VS w v' [] := nr_known (fun p hp => by cases hp) rfl List.Pairwise.nil h
theorem vs_one (w : World) (t1 y1 t2 y2 : ByteArray) (b : Nat) :
    VS ((w.alloc (.cells #[.string t1, .string y1, .string t2, .string y2] 46)).alloc (.cells #[.slice (some ⟨w.heap.size, 0, none⟩) 2 2, .float .f64 b] 50)) (.slice (some ⟨w.heap.size + 1, 0, none⟩) 1 1) [([(t1, y1), (t2, y2)], b)] := by
  refine vs_of (zs := [(.slice (some ⟨w.heap.size, 0, none⟩) 2 2, [(t1, y1), (t2, y2)], b)]) (Sl.lit (lit3 _ _ _) rfl rfl (by omega)) (fun z hz => ?_)
  rw [List.mem_singleton.1 hz]
  have h1 := heap_new w (.cells #[.string t1, .string y1, .string t2, .string y2] 46)
  have h2 : Below (w.alloc (.cells #[.string t1, .string y1, .string t2, .string y2] 46)).heap.size (w.alloc (.cells #[.string t1, .string y1, .string t2, .string y2] 46)) ((w.alloc (.cells #[.string t1, .string y1, .string t2, .string y2] 46)).alloc (.cells #[.slice (some ⟨w.heap.size, 0, none⟩) 2 2, .float .f64 b] 50)) := (Below.refl _ _).alloc (Nat.le_refl _) _
  exact Sl.below (xs := [(t1, y1), (t2, y2)]) (Sl.lit h1 rfl rfl (by omega)) h2 (Nat.le_refl _)
set_option maxHeartbeats 8000000 in
theorem jknown_any (w : World) (ht : Tab w) : Calls Tryz.prog 5 #[] w fun e w' => e = .returned (.bool true) ∧ Below w.heap.size w w' := by
  obtain ⟨w2, hw2⟩ : ∃ w2, w2 = (w.alloc (.cells #[.string ⟨#[95, 95, 110, 97, 109, 101, 95, 95]⟩, .string ⟨#[109]⟩, .string ⟨#[97]⟩, .string ⟨#[49]⟩] 46)).alloc (.cells #[.slice (some ⟨w.heap.size, 0, none⟩) 2 2, .float .f64 F2] 50) := ⟨_, rfl⟩
  have hb2 : Below w.heap.size w w2 := by rw [hw2]; exact ((Below.refl _ _).alloc (Nat.le_refl _) _).alloc (by simp) _
  have hvs : VS w2 (.slice (some ⟨w.heap.size + 1, 0, none⟩) 1 1) kpA := by rw [hw2]; exact vs_one _ _ _ _ _ _
  have HN := Lib.hid (normal_any _ _ w2 hvs (by decide))
  have HB2 := Lib.hid hb2
  have HW2 := Lib.hid hw2
  have HT := Lib.hid ht
  clear hw2 hb2 hvs ht
  go_enter Tryz.func5, Tryz.ntmps5
  go_wp2_with fail
  rw [show (4611686018427387904 : Nat) = F2 from rfl, ← HW2.out]
  refine HN.out.mono ?_
  rintro e w4 ⟨hb4, hn⟩
  obtain ⟨v4, rfl, hv4⟩ := nr_known kpA_right kpA_canon (strict_one _) hn
  have HB4 := Lib.hid (HB2.out.trans (hb4.mono HB2.out.size))
  obtain ⟨w5, hw5⟩ : ∃ w5, w5 = (w4.alloc (.cells #[.string ⟨#[95, 95, 110, 97, 109, 101, 95, 95]⟩, .string ⟨#[110]⟩, .string ⟨#[97]⟩, .string ⟨#[49]⟩] 46)).alloc (.cells #[.slice (some ⟨w4.heap.size, 0, none⟩) 2 2, .float .f64 F3] 50) := ⟨_, rfl⟩
  have hb5 : Below w4.heap.size w4 w5 := by rw [hw5]; exact ((Below.refl _ _).alloc (Nat.le_refl _) _).alloc (by simp) _
  have hvs5 : VS w5 (.slice (some ⟨w4.heap.size + 1, 0, none⟩) 1 1) kpB := by rw [hw5]; exact vs_one _ _ _ _ _ _
  have HN5 := Lib.hid (normal_any _ _ w5 hvs5 (by decide))
  have HB5 := Lib.hid (HB4.out.trans (hb5.mono HB4.out.size))
  have HV5 := Lib.hid (hv4.below hb5 (Nat.le_refl _))
  have HW5 := Lib.hid hw5
  obtain ⟨a4, c4, rfl, hl4, -⟩ := hv4.split
  simp only [show kpA.length = 1 from rfl] at hl4 HV5 ⊢
  clear hb4 hn HN hv4 hb5 hw5 hvs5
  go_wp2_with fail
  rw [show (4613937818241073152 : Nat) = F3 from rfl, ← HW5.out]
  refine HN5.out.mono ?_
  rintro e w6 ⟨hb6, hn⟩
  obtain ⟨v6, rfl, hv6⟩ := nr_known kpB_right kpB_canon (strict_one _) hn
  have HB6 := Lib.hid (HB5.out.trans (hb6.mono HB5.out.size))
  have HVA := Lib.hid (HV5.out.below hb6 (Nat.le_refl _))
  have HVB := Lib.hid hv6
  obtain ⟨a6, c6, rfl, hl6, -⟩ := hv6.split
  simp only [show kpB.length = 1 from rfl] at hl6 HVB ⊢
  have HBIN := Lib.hid (bin_go 1 0 0 false (.slice none 0 0) (.slice none 0 0) _ _ [] [] kpA kpB w6 HVA.out HVB.out (Sl.nil _) (Sl.nil _) (fun s h => by cases h) (fun s h => by cases h) kpA_ok kpB_ok (by decide) (by decide) (HT.out.below HB6.out (Nat.le_refl _)))
  clear hb6 hn HN5 hv6 HV5
  go_wp2_with fail
  refine HBIN.out.mono ?_
  rintro e w7 ⟨hb7, hr7⟩
  have hr8 : NR kpC e w7 := by
    rcases hr7 with ⟨h, -⟩ | ⟨-, h, -⟩ | ⟨-, -, h⟩
    · rw [k_mchk] at h; omega
    · rw [show twiceB (sgP 0 []) kpA = false from twice_one _ _, show twiceB (sgP 0 []) kpB = false from twice_one _ _] at h
      simp at h
    · rw [k_bin] at h; exact h
  obtain ⟨v7, rfl, hv7⟩ := nr_known kpC_right kpC_canon (strict_one _) hr8
  have HB7 := Lib.hid (HB6.out.trans (hb7.mono HB6.out.size))
  obtain ⟨a7, c7, rfl, hl7, hc7⟩ := hv7.split
  obtain ⟨b7, off7, lv7, rfl, k7, k7v, s7⟩ := hc7 0 (by decide)
  obtain ⟨al7, cl7, rfl, -, -⟩ := s7.len lenc_pos
  have k7 : w7.cell? ⟨b7, off7, none⟩ = some (.slice al7 1 cl7) := by simpa [kpC, lbSum] using k7
  have k7v : w7.cell? ⟨b7, off7 + 1, none⟩ = some (.float .f64 F5) := by simpa [kpC] using k7v
  have HSET := Lib.hid (set_go 13 0 (.slice none 0 0) _ _ [] kpA kpB w7 (HVA.out.below hb7 (Nat.le_refl _)) (HVB.out.below hb7 (Nat.le_refl _)) (Sl.nil _) (fun s h => by cases h) kpA_ok kpB_ok (by decide) (by decide) (HT.out.below HB7.out (Nat.le_refl _)))
  have K7 := Lib.hid k7
  have K7v := Lib.hid k7v
  simp only [show kpC.length = 1 from rfl] at hl7 ⊢
  clear hb7 hr7 hr8 hv7 hc7 s7 k7 k7v HBIN
  go_wp2_with fail
  refine HSET.out.mono ?_
  rintro e w8 ⟨hb8, hr8⟩
  have hr9 : NR [] e w8 := by
    rcases hr8 with ⟨h, -⟩ | ⟨-, h⟩
    · rw [k_chk0] at h; omega
    · rw [k_set] at h; exact h
  obtain ⟨v8, rfl, hv8⟩ := nr_nil hr9
  obtain ⟨a8, c8, rfl, hl8, -⟩ := hv8.split
  simp only [List.length_nil] at hl8 ⊢
  have HB8 := Lib.hid (HB7.out.trans (hb8.mono HB7.out.size))
  have k7 := cell_below hb8 (Nat.le_refl _) K7.out
  have k7v : w8.cell? ⟨b7, off7 + 1, none⟩ = some (.float .f64 4617315517961601024) := cell_below hb8 (Nat.le_refl _) K7v.out
  have o5 : (FloatKind.f64.format.order 4617315517961601024 4617315517961601024 == some .eq) = true := by decide +kernel
  have HNM := Lib.hid (jnName_any 14 w8)
  rw [k_name] at HNM
  have HLV := Lib.hid (fun w => level_any 3 w)
  rw [show levelL 3 = 6 from rfl] at HLV
  clear hb8 hr8 hr9 hv8 HSET
  go_wp2_with fail
  refine HNM.out.mono ?_
  rintro e w9 ⟨rfl, hb9⟩
  have HB9 := Lib.hid (HB8.out.trans (hb9.mono HB8.out.size))
  clear hb9
  go_wp2_with fail
  refine (HLV.out _).mono ?_
  rintro e w10 ⟨rfl, rfl⟩
  go_wp2_with fail
  go_ret
  exact ⟨rfl, HB9.out⟩
end Go.Proofs.YtogjcaakfnfapaaGreatDoor
namespace Go.Proofs.YtogjcaakfnfapaaGreatDoor
open Go Go.RowKit Go.ChangeShapes Go.WideShapes Go.Joins Go.Deep
set_option linter.unusedVariables false
set_option linter.unusedSimpArgs false
set_option maxRecDepth 100000
theorem Tryz.cellsMa : Tryz.prog.cellsOf 26 = 4 := by kernel_rfl
section
variable {H : Type} {enc : TypeId × Value → H} {w : World} {base : Nat} {spare : Nat → Bool} {held : Bool}
theorem open_labels {r : Reach} {b0 : Nat} {v : Value} {d : DataW H} {ps : List MemPlace} (hval : Value.okWide Tryz.prog w r b0 47 v) (h : DataW.Trod enc Tryz.prog w base spare held 47 v d ps) : ∃ xs, Sl lenc w v xs := by
  obtain ⟨xs, h, _⟩ := open_sl Tryz.underlying47 Tryz.cellsLb (by decide) lenc_len elem_label hval h
  exact ⟨xs, h⟩
theorem open_match {r : Reach} {b0 : Nat} {v : Value} {d : DataW H} {ps : List MemPlace} (hval : Value.okWide Tryz.prog w r b0 26 v) (h : DataW.Trod enc Tryz.prog w base spare held 26 v d ps) : ∃ how u xs card ui ys, v = .agg #[.int .i64 how, u, .int .i64 card, ui] ∧ Sl senc1 w u xs ∧ Sl senc1 w ui ys := by
  obtain ⟨cs, rfl, hsz⟩ := okWide_struct Tryz.underlying26 hval
  obtain ⟨fuel, hf⟩ := h
  obtain ⟨y0, y1, y2, m, hx, hl, h0, h1, h2⟩ := trod_struct3 Tryz.underlying26 hf
  have hl3 : cs.toList.length = 4 := by simpa [Tryz.cellsMa] using hsz
  obtain ⟨l, rfl⟩ : ∃ l : List Value, cs = l.toArray := ⟨cs.toList, by simp⟩
  simp only [Value.cells] at h0 h1 h2
  simp only [List.toList_toArray] at hl3 h0 h1 h2
  match l, hl3 with
  | [c0, c1, c2, c3], _ =>
    simp [Tryz.cellsGr, Tryz.cellsI, Tryz.cellsStrs] at h0 h1 h2
    obtain ⟨z0, z1, m2, hx2, hl2, g0, g1⟩ := trod_struct2 Tryz.underlying24 h0
    obtain ⟨se, e0, _⟩ := DataW.trod_int Tryz.underlying3 g0
    obtain ⟨u, xs, e1, hs, _⟩ := open_sl_cs Tryz.underlying22 Tryz.cellsStr (by decide) senc1_len elem_str g1
    obtain ⟨sc, e2, _⟩ := DataW.trod_int Tryz.underlying3 h1
    obtain ⟨u2, ys, e3, hs2, _⟩ := open_sl_cs Tryz.underlying22 Tryz.cellsStr (by decide) senc1_len elem_str h2
    simp [Tryz.cellsI, Tryz.cellsStrs] at e0 e1 e2 e3
    subst e0 e1 e2 e3
    exact ⟨se, _, xs, sc, _, ys, rfl, hs, hs2⟩
end
end Go.Proofs.YtogjcaakfnfapaaGreatDoor
namespace Go.Proofs.YtogjcaakfnfapaaGreatDoor
open Go Go.RowKit
set_option linter.unusedVariables false
set_option linter.unusedSimpArgs false
set_option maxRecDepth 100000
set_option maxHeartbeats 16000000 in
theorem rmcheck_any (how card : Int) (vn vi : Value) (names incl : List ByteArray) (w : World) (hn : Sl senc1 w vn names) (hi : Sl senc1 w vi incl) :
    Calls Tryz.prog 13 #[.agg #[.int .i64 how, vn, .int .i64 card, vi]] w fun e w' => e = .returned (.int .i64 (mchkL how names card incl)) ∧ Below w.heap.size w w' := by
  have HN := Lib.hid hn
  have HI := Lib.hid hi
  obtain ⟨an, cn, rfl, hlen, -⟩ := hn.strings
  obtain ⟨ai, ci, rfl, hleni, hci⟩ := hi.strings
  have hc2 : ∀ k, k < incl.length → ∃ b off, ai = some ⟨b, off, none⟩ ∧ w.cell? ⟨b, off + k, none⟩ = some (.string (nx incl k)) := fun k hk => by
    obtain ⟨b, off, e, hd⟩ := hci k hk
    exact ⟨b, off, e, by rw [hd k hk, nx_at hk]⟩
  have HC := Lib.hid hc2
  clear hn hi hci hc2
  obtain ⟨nn, hnn⟩ : ∃ n, n = names.length := ⟨_, rfl⟩
  rw [← hnn] at HN hlen ⊢
  obtain ⟨ni, hni⟩ : ∃ n, n = incl.length := ⟨_, rfl⟩
  rw [← hni] at HI hleni ⊢
  have HNI := Lib.hid hni
  clear hnn hni
  obtain ⟨w1, hw1⟩ : ∃ w1, w1 = w.alloc (.cells #[.int .i64 how, .slice an nn cn, .int .i64 card, .slice ai ni ci] 26) := ⟨_, rfl⟩
  obtain ⟨mb, hmb⟩ : ∃ b, b = w.heap.size := ⟨_, rfl⟩
  have Q0 := Lib.hid (show w1.cell? ⟨mb, 0, none⟩ = some (.int .i64 how) by rw [hw1, hmb]; simp)
  have Q1 := Lib.hid (show w1.cell? ⟨mb, 1, none⟩ = some (.slice an nn cn) by rw [hw1, hmb]; simp)
  have Q2 := Lib.hid (show w1.cell? ⟨mb, 2, none⟩ = some (.int .i64 card) by rw [hw1, hmb]; simp)
  have Q3 := Lib.hid (show w1.cell? ⟨mb, 3, none⟩ = some (.slice ai ni ci) by rw [hw1, hmb]; simp)
  have HB1 := Lib.hid (show Below w.heap.size w w1 by rw [hw1]; exact (Below.refl _ _).alloc (Nat.le_refl _) _)
  have HW1 := Lib.hid hw1
  have HMB := Lib.hid hmb
  have HCK := Lib.hid (rcheck_any how _ names w1 (HN.out.below HB1.out (Nat.le_refl _)))
  clear hw1 hmb
  obtain ⟨r, hr⟩ : ∃ r, r = mchkL how names card incl := ⟨_, rfl⟩
  rw [← hr]
  have HR := Lib.hid hr
  obtain ⟨ck, hck⟩ : ∃ c, c = chkL how names := ⟨_, rfl⟩
  rw [← hck] at HCK
  by_cases hc0 : ck = 0
  · subst hc0
    have HCK0 := Lib.hid hck
    clear hck
    by_cases h1 : card < 0
    · rw [mchk_bad (.inr (.inl h1))] at hr
      subst hr
      go_enter Tryz.func13, Tryz.ntmps13
      go_wp2_with fail
      rw [← HW1.out, ← HMB.out]
      refine HCK.out.mono ?_
      rintro e w2 ⟨rfl, hb2⟩
      have q0 := cell_below hb2 (Nat.le_refl _) Q0.out
      have q1 := cell_below hb2 (Nat.le_refl _) Q1.out
      have q2 := cell_below hb2 (Nat.le_refl _) Q2.out
      have q3 := cell_below hb2 (Nat.le_refl _) Q3.out
      have HB2 := Lib.hid (HB1.out.trans (hb2.mono HB1.out.size))
      clear hb2
      go_wp2_with fail
      go_ret
      exact ⟨rfl, HB2.out⟩
    · have h1' : 0 ≤ card := by omega
      clear h1
      by_cases h2 : 2 < card
      · rw [mchk_bad (.inr (.inr (.inl h2)))] at hr
        subst hr
        go_enter Tryz.func13, Tryz.ntmps13
        go_wp2_with fail
        rw [← HW1.out, ← HMB.out]
        refine HCK.out.mono ?_
        rintro e w2 ⟨rfl, hb2⟩
        have q0 := cell_below hb2 (Nat.le_refl _) Q0.out
        have q1 := cell_below hb2 (Nat.le_refl _) Q1.out
        have q2 := cell_below hb2 (Nat.le_refl _) Q2.out
        have q3 := cell_below hb2 (Nat.le_refl _) Q3.out
        have HB2 := Lib.hid (HB1.out.trans (hb2.mono HB1.out.size))
        clear hb2
        go_wp2_with fail
        go_ret
        exact ⟨rfl, HB2.out⟩
      · have h2' : card ≤ 2 := by omega
        clear h2
        by_cases h32 : 32 < ni
        · have h5 : (32 : Int) < (ni : Int) := by omega
          rw [mchk_bad (.inr (.inr (.inr (.inr (.inl (by unfold onceL; rw [← HNI.out, decide_eq_false (by omega)]; rfl))))))] at hr
          subst hr
          go_enter Tryz.func13, Tryz.ntmps13
          go_wp2_with fail
          rw [← HW1.out, ← HMB.out]
          refine HCK.out.mono ?_
          rintro e w2 ⟨rfl, hb2⟩
          have q0 := cell_below hb2 (Nat.le_refl _) Q0.out
          have q1 := cell_below hb2 (Nat.le_refl _) Q1.out
          have q2 := cell_below hb2 (Nat.le_refl _) Q2.out
          have q3 := cell_below hb2 (Nat.le_refl _) Q3.out
          have HB2 := Lib.hid (HB1.out.trans (hb2.mono HB1.out.size))
          clear hb2
          go_wp2_with fail
          go_ret
          exact ⟨rfl, HB2.out⟩
        · have h32' : ni ≤ 32 := by omega
          have h32z : (ni : Int) ≤ 32 := by omega
          have H32 := Lib.hid h32'
          have HCD := Lib.hid (show 0 ≤ card ∧ card ≤ 2 from ⟨h1', h2'⟩)
          clear h32
          by_cases h3 : card = 0 ∧ 0 < ni
          · obtain ⟨rfl, h4⟩ := h3
            have h5 : (0 : Int) < (ni : Int) := by omega
            rw [mchk_bad (.inr (.inr (.inr (.inl ⟨rfl, by rw [← HNI.out]; exact h4⟩))))] at hr
            subst hr
            go_enter Tryz.func13, Tryz.ntmps13
            go_wp2_with fail
            rw [← HW1.out, ← HMB.out]
            refine HCK.out.mono ?_
            rintro e w2 ⟨rfl, hb2⟩
            have q0 := cell_below hb2 (Nat.le_refl _) Q0.out
            have q1 := cell_below hb2 (Nat.le_refl _) Q1.out
            have q2 := cell_below hb2 (Nat.le_refl _) Q2.out
            have q3 := cell_below hb2 (Nat.le_refl _) Q3.out
            have HB2 := Lib.hid (HB1.out.trans (hb2.mono HB1.out.size))
            clear hb2
            go_wp2_with fail
            go_ret
            exact ⟨rfl, HB2.out⟩
          · have HCZ := Lib.hid h3
            have b1 : decide (card < 0) = false := decide_eq_false (by omega)
            have b2 : decide (2 < card) = false := decide_eq_false (by omega)
            have b3 : decide ((32 : Int) < (ni : Int)) = false := decide_eq_false (by omega)
            by_cases h5 : card = 0
            · subst h5
              obtain rfl : ni = 0 := by omega
              clear h3 b1 b2 b3 hr
              go_enter Tryz.func13, Tryz.ntmps13
              go_wp2_with fail
              rw [← HW1.out, ← HMB.out]
              refine HCK.out.mono ?_
              rintro e w2 ⟨rfl, hb2⟩
              have q0 := cell_below hb2 (Nat.le_refl _) Q0.out
              have q1 := cell_below hb2 (Nat.le_refl _) Q1.out
              have q2 := cell_below hb2 (Nat.le_refl _) Q2.out
              have q3 := cell_below hb2 (Nat.le_refl _) Q3.out
              have HB2 := Lib.hid (HB1.out.trans (hb2.mono HB1.out.size))
              clear hb2
              go_wp2_with fail
              go_loopw [4] (fun i wr => ∃ k : Nat, k ≤ 0 ∧ i = .int .i64 k ∧ Hid (∀ j, j < k → newN incl j = true ∧ (how = 1 → hasL names (nx incl j) = false)) ∧ wr = w2) (fun i _ => 0 - (intOf i).toNat)
              case atStart => exact ⟨0, Nat.zero_le _, rfl, (fun j h => absurd h (Nat.not_lt_zero _)), rfl⟩
              case round =>
                obtain ⟨k, hk, rfl, HJ, rfl⟩ := hrel
                obtain rfl : k = 0 := by omega
                have HF := Lib.hid (show r = 0 by
                  rw [HR.out]
                  have h9 : onceL incl = true := once_yes (by rw [← HNI.out]; exact H32.out) (fun j hj => (HJ.out j (by have := HNI.out; omega)).1)
                  have h10 : how = 1 → incl.any (hasL names) = false := fun h => by
                    rw [List.any_eq_false]
                    intro s hs
                    obtain ⟨j, hj, rfl⟩ := List.mem_iff_getElem.1 hs
                    have := (HJ.out j (by have := HNI.out; omega)).2 h
                    rw [nx_at hj] at this
                    simp [this]
                  refine mchk_ok fun h => ?_
                  rcases h with h | h | h | h | h | h
                  · exact h HCK0.out.symm
                  · have := HCD.out; omega
                  · have := HCD.out; omega
                  · have := HCZ.out; have := HNI.out; omega
                  · rw [h9] at h; cases h
                  · rw [h10 h.1] at h; cases h.2)
                go_wp2_with fail
                go_ret
                exact ⟨by rw [HF.out] <;> rfl, HB2.out⟩
            · have h6 : (card == 0) = false := by simpa using h5
              clear h3 h5 hr
              go_enter Tryz.func13, Tryz.ntmps13
              go_wp2_with fail
              rw [← HW1.out, ← HMB.out]
              refine HCK.out.mono ?_
              rintro e w2 ⟨rfl, hb2⟩
              have q0 := cell_below hb2 (Nat.le_refl _) Q0.out
              have q1 := cell_below hb2 (Nat.le_refl _) Q1.out
              have q2 := cell_below hb2 (Nat.le_refl _) Q2.out
              have q3 := cell_below hb2 (Nat.le_refl _) Q3.out
              have HB2 := Lib.hid (HB1.out.trans (hb2.mono HB1.out.size))
              clear hb2
              go_wp2_with fail
              go_loopw [4] (fun i wr => ∃ k : Nat, k ≤ ni ∧ i = .int .i64 k ∧ Hid (∀ j, j < k → newN incl j = true ∧ (how = 1 → hasL names (nx incl j) = false)) ∧ wr = w2) (fun i _ => ni - (intOf i).toNat)
              case atStart => exact ⟨0, Nat.zero_le _, rfl, (fun j h => absurd h (Nat.not_lt_zero _)), rfl⟩
              case round =>
                obtain ⟨k, hk, rfl, HJ, rfl⟩ := hrel
                have h00 : (0 : Int) ≤ (k : Int) := by omega
                by_cases hlt : k < ni
                · have hltz : (k : Int) < (ni : Int) := by omega
                  obtain ⟨b, off, rfl, q⟩ := HC.out k (by have := HNI.out; omega)
                  have q9 := cell_below HB2.out (Nat.le_refl _) q
                  obtain ⟨x, hx⟩ : ∃ x, x = nx incl k := ⟨_, rfl⟩
                  rw [← hx] at q9
                  have hxm : x ∈ incl := by rw [hx, nx_at (by have := HNI.out; omega)]; exact List.getElem_mem _
                  obtain ⟨nb, hnb⟩ : ∃ q, q = nameB x := ⟨_, rfl⟩
                  have HNM := Lib.hid (fun w => rname_qs x w)
                  rw [← hnb] at HNM
                  obtain ⟨hs, hhs⟩ : ∃ q, q = hasL (incl.take k) x := ⟨_, rfl⟩
                  obtain ⟨a1, c1, hsl, hsl2⟩ := Sl.head (T := 22) Tryz.elemStrs Tryz.sizeStr senc1_len HI.out (k := k) (by have := HNI.out; omega)
                  have HHS := Lib.hid (rhas_qs _ _ x wr (hsl2.below HB2.out (Nat.le_refl _)))
                  rw [← hhs] at HHS
                  obtain ⟨hh, hhh⟩ : ∃ q, q = hasL names x := ⟨_, rfl⟩
                  have HHN := Lib.hid (rhas_qs _ _ x wr (HN.out.below HB2.out (Nat.le_refl _)))
                  rw [← hhh] at HHN
                  have HNW := Lib.hid (show newN incl k = (nb && !hs) by rw [newN, ← hx, hnb, hhs])
                  have HXM := Lib.hid hxm
                  have HX := Lib.hid hx
                  have HHH := Lib.hid hhh
                  clear q hx hxm hnb hhs hhh hsl2
                  cases nb with
                  | false =>
                    have HF := Lib.hid (show r = 1 by rw [HR.out]; exact mchk_bad (.inr (.inr (.inr (.inr (.inl (once_no (k := k) (by have := HNI.out; omega) (by rw [HNW.out]; rfl))))))))
                    go_wp2_with fail
                    refine (HNM.out _).mono ?_
                    rintro e w3 ⟨rfl, rfl⟩
                    go_wp2_with fail
                    go_ret
                    exact ⟨by rw [HF.out] <;> rfl, HB2.out⟩
                  | true =>
                    cases hs with
                    | true =>
                      have HF := Lib.hid (show r = 1 by rw [HR.out]; exact mchk_bad (.inr (.inr (.inr (.inr (.inl (once_no (k := k) (by have := HNI.out; omega) (by rw [HNW.out]; rfl))))))))
                      go_wp2_with fail
                      refine (HNM.out _).mono ?_
                      rintro e w3 ⟨rfl, rfl⟩
                      go_wp2_with fail
                      refine HHS.out.mono ?_
                      rintro e w4 ⟨rfl, rfl⟩
                      go_wp2_with fail
                      go_ret
                      exact ⟨by rw [HF.out] <;> rfl, HB2.out⟩
                    | false =>
                      by_cases h7 : how = 1
                      · have h8 : (how == 1) = true := by simpa using h7
                        have H7 := Lib.hid h7
                        clear h7
                        cases hh with
                        | true =>
                          have HF := Lib.hid (show r = 1 by rw [HR.out]; exact mchk_bad (.inr (.inr (.inr (.inr (.inr ⟨H7.out, List.any_eq_true.2 ⟨x, HXM.out, HHH.out.symm⟩⟩))))))
                          go_wp2_with fail
                          refine (HNM.out _).mono ?_
                          rintro e w3 ⟨rfl, rfl⟩
                          go_wp2_with fail
                          refine HHS.out.mono ?_
                          rintro e w4 ⟨rfl, rfl⟩
                          go_wp2_with fail
                          refine HHN.out.mono ?_
                          rintro e w5 ⟨rfl, rfl⟩
                          go_wp2_with fail
                          go_ret
                          exact ⟨by rw [HF.out] <;> rfl, HB2.out⟩
                        | false =>
                          go_wp2_with fail
                          refine (HNM.out _).mono ?_
                          rintro e w3 ⟨rfl, rfl⟩
                          go_wp2_with fail
                          refine HHS.out.mono ?_
                          rintro e w4 ⟨rfl, rfl⟩
                          go_wp2_with fail
                          refine HHN.out.mono ?_
                          rintro e w5 ⟨rfl, rfl⟩
                          go_wp2_with fail
                          go_roundw
                          case rel => exact ⟨k + 1, by omega, by go_num, (fun j hj => by
                            by_cases e : j = k
                            · subst e; exact ⟨HNW.out, fun _ => by rw [← HX.out]; exact HHH.out.symm⟩
                            · exact HJ.out j (by omega)), by trivial⟩
                          case measure => simp [intOf]; omega
                      · have h8 : (how == 1) = false := by simpa using h7
                        have H7 := Lib.hid h7
                        clear h7
                        go_wp2_with fail
                        refine (HNM.out _).mono ?_
                        rintro e w3 ⟨rfl, rfl⟩
                        go_wp2_with fail
                        refine HHS.out.mono ?_
                        rintro e w4 ⟨rfl, rfl⟩
                        go_wp2_with fail
                        go_roundw
                        case rel => exact ⟨k + 1, by omega, by go_num, (fun j hj => by
                          by_cases e : j = k
                          · subst e; exact ⟨HNW.out, fun h => absurd h H7.out⟩
                          · exact HJ.out j (by omega)), by trivial⟩
                        case measure => simp [intOf]; omega
                · have hltz : ¬ (k : Int) < (ni : Int) := by omega
                  have HF := Lib.hid (show r = 0 by
                    rw [HR.out]
                    have h9 : onceL incl = true := once_yes (by rw [← HNI.out]; exact H32.out) (fun j hj => (HJ.out j (by have := HNI.out; omega)).1)
                    have h10 : how = 1 → incl.any (hasL names) = false := fun h => by
                      rw [List.any_eq_false]
                      intro s hs
                      obtain ⟨j, hj, rfl⟩ := List.mem_iff_getElem.1 hs
                      have := (HJ.out j (by have := HNI.out; omega)).2 h
                      rw [nx_at hj] at this
                      simp [this]
                    refine mchk_ok fun h => ?_
                    rcases h with h | h | h | h | h | h
                    · exact h HCK0.out.symm
                    · have := HCD.out; omega
                    · have := HCD.out; omega
                    · have := HCZ.out; have := HNI.out; omega
                    · rw [h9] at h; cases h
                    · rw [h10 h.1] at h; cases h.2)
                  go_wp2_with fail
                  go_ret
                  exact ⟨by rw [HF.out] <;> rfl, HB2.out⟩
  · have hck1 : ck = 1 := by rw [hck]; exact chk_one (by rw [← hck]; exact hc0)
    rw [mchk_bad (.inl (by rw [← hck]; exact hc0))] at hr
    subst hr hck1
    clear hck hc0
    go_enter Tryz.func13, Tryz.ntmps13
    go_wp2_with fail
    rw [← HW1.out, ← HMB.out]
    refine HCK.out.mono ?_
    rintro e w2 ⟨rfl, hb2⟩
    have q0 := cell_below hb2 (Nat.le_refl _) Q0.out
    have q1 := cell_below hb2 (Nat.le_refl _) Q1.out
    have q2 := cell_below hb2 (Nat.le_refl _) Q2.out
    have q3 := cell_below hb2 (Nat.le_refl _) Q3.out
    have HB2 := Lib.hid (HB1.out.trans (hb2.mono HB1.out.size))
    clear hb2
    go_wp2_with fail
    go_ret
    exact ⟨rfl, HB2.out⟩
end Go.Proofs.YtogjcaakfnfapaaGreatDoor
namespace Go.Proofs.YtogjcaakfnfapaaGreatDoor
open Go Go.RowKit
set_option linter.unusedVariables false
set_option linter.unusedSimpArgs false
set_option maxRecDepth 100000
theorem twice_yes {β : Type} {gl : β → List Lb} {zs : List β} {i k : Nat} (h : i < zs.length) (hk : k < i) (e : gl zs[i] = gl (zs[k]'(by omega))) : twiceB gl zs = true := by
  unfold twiceB
  rw [decide_eq_true_eq]
  intro hn
  rw [List.Nodup, List.pairwise_map, List.pairwise_iff_getElem] at hn
  exact hn k i (by omega) h hk e.symm
theorem twice_no {β : Type} {gl : β → List Lb} {zs : List β} (h : ∀ i k (hi : i < zs.length) (hk : k < i), gl zs[i] ≠ gl (zs[k]'(by omega))) : twiceB gl zs = false := by
  unfold twiceB
  rw [decide_eq_false_iff_not, Classical.not_not, List.Nodup, List.pairwise_map, List.pairwise_iff_getElem]
  intro i j hi hj hij he
  exact h j i hj hij he.symm
theorem has_yes {β : Type} {gl : β → List Lb} {zs : List β} {g : List Lb} {i : Nat} (h : i < zs.length) (e : gl zs[i] = g) : hasSg gl zs g = true := by
  unfold hasSg
  rw [decide_eq_true_eq]
  exact List.mem_map.2 ⟨_, List.getElem_mem h, e⟩
theorem has_no {β : Type} {gl : β → List Lb} {zs : List β} {g : List Lb} (h : ∀ i (hi : i < zs.length), gl zs[i] ≠ g) : hasSg gl zs g = false := by
  unfold hasSg
  rw [decide_eq_false_iff_not]
  intro hm
  obtain ⟨z, hz, e⟩ := List.mem_map.1 hm
  obtain ⟨i, hi, rfl⟩ := List.mem_iff_getElem.1 hz
  exact h i hi e
set_option maxHeartbeats 16000000 in
theorem rtwice_any (how : Int) (v vn : Value) (names : List ByteArray) (ps : List Pt) (w : World) (hv : VS w v ps) (hn : Sl senc1 w vn names) (hp : ∀ p ∈ ps, p.1.length ≤ 1000) (hnl : names.length ≤ 100000) :
    Calls Tryz.prog 27 #[v, .agg #[.int .i64 how, vn]] w fun e w' => e = .returned (.bool (twiceB (sgP how names) ps)) ∧ Below w.heap.size w w' := by
  have HN := Lib.hid hn
  have HP := Lib.hid hp
  have HNL := Lib.hid hnl
  obtain ⟨an, cn, rfl, hlen, -⟩ := hn.strings
  obtain ⟨av, cv, rfl, hlv, hc⟩ := hv.split
  have HC := Lib.hid hc
  clear hv hn hp hnl hc
  obtain ⟨nn, hnn⟩ : ∃ n, n = names.length := ⟨_, rfl⟩
  rw [← hnn] at HN hlen ⊢
  clear hnn
  obtain ⟨N, hN⟩ : ∃ n, n = ps.length := ⟨_, rfl⟩
  rw [← hN] at hlv ⊢
  have HNN := Lib.hid hN
  obtain ⟨w1, hw1⟩ : ∃ w1, w1 = w.alloc (.cells #[.int .i64 how, .slice an nn cn] 24) := ⟨_, rfl⟩
  obtain ⟨bg, hbg⟩ : ∃ b, b = w.heap.size := ⟨_, rfl⟩
  have G0 := Lib.hid (show w1.cell? ⟨bg, 0, none⟩ = some (.int .i64 how) by rw [hw1, hbg]; simp)
  have G1 := Lib.hid (show w1.cell? ⟨bg, 1, none⟩ = some (.slice an nn cn) by rw [hw1, hbg]; simp)
  have HB1 := Lib.hid (show Below w.heap.size w w1 by rw [hw1]; exact (Below.refl _ _).alloc (Nat.le_refl _) _)
  have HW1 := Lib.hid hw1
  have HBG := Lib.hid hbg
  obtain ⟨r, hr⟩ : ∃ r, r = twiceB (sgP how names) ps := ⟨_, rfl⟩
  rw [← hr]
  have HR := Lib.hid hr
  clear hw1 hbg hN hr
  go_enter Tryz.func27, Tryz.ntmps27
  go_wp2_with fail
  rw [← HW1.out, ← HBG.out]
  go_loopw [5] (fun i wr => ∃ j : Nat, j ≤ N ∧ i = .int .i64 j ∧ Hid (∀ i k (hi : i < ps.length) (hk : k < i), i < j → sgP how names ps[i] ≠ sgP how names (ps[k]'(by omega))) ∧ Hid (Below w1.heap.size w1 wr)) (fun i _ => N - (intOf i).toNat)
  case atStart => exact ⟨0, Nat.zero_le _, rfl, (fun i k hi hk h => absurd h (Nat.not_lt_zero _)), Below.refl _ _⟩
  case round =>
    obtain ⟨j, hj, rfl, HJ, HB⟩ := hrel
    have h00 : (0 : Int) ≤ (j : Int) := by omega
    by_cases hlt : j < N
    · have hltz : (j : Int) < (N : Int) := by omega
      have hjp : j < ps.length := by have := HNN.out; omega
      obtain ⟨b, off, lv, rfl, k0, -, s0⟩ := HC.out j hjp
      obtain ⟨p, hpj⟩ : ∃ p, p = ps[j] := ⟨_, rfl⟩
      rw [← hpj] at s0
      have hl0 : p.1.length ≤ 1000 := HP.out p (by rw [hpj]; exact List.getElem_mem _)
      obtain ⟨a1, c1, rfl, -, -⟩ := s0.len lenc_pos
      obtain ⟨n1, hn1⟩ : ∃ n, n = p.1.length := ⟨_, rfl⟩
      rw [← hn1] at k0 s0
      have K0 := Lib.hid k0
      have S0 := Lib.hid s0
      have HPJ := Lib.hid hpj
      have HL0 := Lib.hid hl0
      obtain ⟨wo, rfl⟩ : ∃ wo, wo = wr := ⟨_, rfl⟩
      clear k0 s0 hpj hl0 hn1
      go_wp2_with fail
      go_loopw [6] (fun i wr => ∃ k : Nat, k ≤ j ∧ i = .int .i64 k ∧ Hid (∀ k' (hk : k' < j), k' < k → sgP how names (ps[j]'hjp) ≠ sgP how names (ps[k']'(by omega))) ∧ Hid (Below w1.heap.size w1 wr)) (fun i _ => j - (intOf i).toNat)
      case atStart => exact ⟨0, Nat.zero_le _, rfl, (fun k hk h => absurd h (Nat.not_lt_zero _)), HB.out⟩
      case round =>
        obtain ⟨k, hk, rfl, HK, HQ⟩ := hrel
        have h01 : (0 : Int) ≤ (k : Int) := by omega
        by_cases hlt2 : k < j
        · have hltz2 : (k : Int) < (j : Int) := by omega
          have hkz : (k : Int) < (N : Int) := by omega
          have hkn : k < N := by omega
          have hkp : k < ps.length := by omega
          obtain ⟨b2, off2, lv2, e2, k2, -, s2⟩ := HC.out k hkp
          injection e2 with e2
          injection e2 with e2 e3 e4
          subst e2 e3
          obtain ⟨q, hqk⟩ : ∃ q, q = ps[k] := ⟨_, rfl⟩
          rw [← hqk] at s2
          have hl2 : q.1.length ≤ 1000 := HP.out q (by rw [hqk]; exact List.getElem_mem _)
          obtain ⟨a2, c2, rfl, -, -⟩ := s2.len lenc_pos
          obtain ⟨n2, hn2⟩ : ∃ n, n = q.1.length := ⟨_, rfl⟩
          rw [← hn2] at k2 s2
          have hbw := HB1.out.trans (HQ.out.mono HB1.out.size)
          have p0 := cell_below hbw (Nat.le_refl _) K0.out
          have p2 := cell_below hbw (Nat.le_refl _) k2
          have g0 := cell_below HQ.out (Nat.le_refl _) G0.out
          have g1 := cell_below HQ.out (Nat.le_refl _) G1.out
          have HSI := Lib.hid (fun w' (hb : Below wr.heap.size wr w') => rsign_S how _ (.slice an nn cn) p.1 names w' ((S0.out.below hbw (Nat.le_refl _)).below hb (Nat.le_refl _)) ((HN.out.below hbw (Nat.le_refl _)).below hb (Nat.le_refl _)) (by have := HL0.out; omega) HNL.out)
          have HSK := Lib.hid (fun w' (hb : Below wr.heap.size wr w') => rsign_S how _ (.slice an nn cn) q.1 names w' ((s2.below hbw (Nat.le_refl _)).below hb (Nat.le_refl _)) ((HN.out.below hbw (Nat.le_refl _)).below hb (Nat.le_refl _)) (by omega) HNL.out)
          obtain ⟨gi, hgi⟩ : ∃ g, g = signL how names p.1 := ⟨_, rfl⟩
          obtain ⟨gk, hgk⟩ : ∃ g, g = signL how names q.1 := ⟨_, rfl⟩
          rw [← hgi] at HSI
          rw [← hgk] at HSK
          obtain ⟨be, hbe⟩ : ∃ b, b = decide (gi = gk) := ⟨_, rfl⟩
          have HSM := Lib.hid (fun v1 v2 w' (h1 : Sl lenc w' v1 gi) (h2 : Sl lenc w' v2 gk) => rsame_S v1 v2 gi gk w' h1 h2)
          rw [← hbe] at HSM
          have HBI := Lib.hid (show be = true ↔ sgP how names (ps[j]'hjp) = sgP how names ps[k] by
            rw [hbe, decide_eq_true_iff, hgi, hgk, HPJ.out, hqk]; rfl)
          have HBW := Lib.hid hbw
          clear k2 s2 hqk hl2 hn2 hbw hgi hgk hbe
          go_wp2_with fail
          have hbA : Below wr.heap.size wr wr := Below.refl _ _
          have hsA := hbA.size
          have hfst : True := trivial
          go_region_held3 (fun w' => w'.cell? ⟨bg, 0, none⟩ = some (.int .i64 how) ∧ w'.cell? ⟨bg, 1, none⟩ = some (.slice an nn cn) ∧ w'.cell? ⟨b, off + j * 2, none⟩ = some (.slice a1 n1 c1) ∧ w'.cell? ⟨b, off + k * 2, none⟩ = some (.slice a2 n2 c2))
            (exact ⟨cell_below (B := wr.heap.size) (by go_grown) (Nat.le_refl _) g0, cell_below (B := wr.heap.size) (by go_grown) (Nat.le_refl _) g1, cell_below (B := wr.heap.size) (by go_grown) (Nat.le_refl _) p0, cell_below (B := wr.heap.size) (by go_grown) (Nat.le_refl _) p2⟩)
            (first
              | (go_at_call 29
                 clear hfst
                 refine (HSI.out _ (by go_grown)).mono ?_
                 rintro e w3 ⟨a3, n3, c3, rfl, hs3, -, hb3⟩
                 have hbA : Below wr.heap.size wr w3 := Below.trans (by go_grown) (hb3.mono (by first | exact Nat.le_refl _ | (simp; done) | (simp; omega)))
                 have hsA := hbA.size)
              | (go_at_call 29
                 refine (HSK.out _ hbA).mono ?_
                 rintro e w4 ⟨a4, n4, c4, rfl, hs4, -, hb4⟩
                 have hs3 := Sl.below hs3 hb4 (Nat.le_refl _)
                 have hbA : Below wr.heap.size wr w4 := hbA.trans (hb4.mono hsA)
                 have hsA := hbA.size)
              | (go_at_call 28
                 refine (HSM.out _ _ _ hs3 hs4).mono ?_
                 rintro e w5 ⟨rfl, hb5⟩
                 have hbA : Below wr.heap.size wr w5 := hbA.trans (hb5.mono hsA)
                 have hsA := hbA.size))
          have HQ5 := Lib.hid (HQ.out.trans (hbA.mono HQ.out.size))
          clear hbA hsA hs3 hs4 hb3 hb4 hb5 p0 p2 g0 g1 HSI HSK HSM
          cases be with
          | true =>
            have hf : r = true := by rw [HR.out]; exact twice_yes hjp hlt2 (HBI.out.1 rfl)
            subst hf
            go_wp2_with fail
            go_ret
            exact ⟨rfl, HB1.out.trans (HQ5.out.mono HB1.out.size)⟩
          | false =>
            go_wp2_with fail
            go_roundw
            case rel => exact ⟨k + 1, by omega, by go_num, (fun k' hk' h => by
              by_cases e : k' = k
              · subst e
                exact fun hx => by have := HBI.out.2 hx; cases this
              · exact HK.out k' hk' (by omega)), HQ5.out⟩
            case measure => simp [intOf]; omega
        · have hltz2 : ¬ (k : Int) < (j : Int) := by omega
          go_wp2_with fail
          go_roundw
          case rel => exact ⟨j + 1, by omega, by go_num, (fun i k' hi hk' h => by
            by_cases e : i = j
            · subst e
              exact HK.out k' hk' (by omega)
            · exact HJ.out i k' hi hk' (by omega)), HQ.out⟩
          case measure => simp [intOf]; omega
    · have hltz : ¬ (j : Int) < (N : Int) := by omega
      have hf : r = false := by rw [HR.out]; exact twice_no (fun i k hi hk => HJ.out i k hi hk (by have := HNN.out; omega))
      subst hf
      go_wp2_with fail
      go_ret
      exact ⟨rfl, HB1.out.trans (HB.out.mono HB1.out.size)⟩
set_option maxHeartbeats 16000000 in
theorem ramong_any (how : Int) (v vn vl : Value) (names : List ByteArray) (ps : List Pt) (l : List Lb) (w : World) (hv : VS w v ps) (hn : Sl senc1 w vn names) (hl : Sl lenc w vl l) (hp : ∀ p ∈ ps, p.1.length ≤ 1000) (hll : l.length ≤ 1000) (hnl : names.length ≤ 100000) :
    Calls Tryz.prog 43 #[v, .agg #[.int .i64 how, vn], vl] w fun e w' => e = .returned (.bool (hasSg (sgP how names) ps (signL how names l))) ∧ Below w.heap.size w w' := by
  have HN := Lib.hid hn
  have HP := Lib.hid hp
  have HNL := Lib.hid hnl
  have HL := Lib.hid hl
  have HLL := Lib.hid hll
  obtain ⟨an, cn, rfl, hlen, -⟩ := hn.strings
  obtain ⟨av, cv, rfl, hlv, hc⟩ := hv.split
  obtain ⟨al, cl, rfl, -, -⟩ := hl.len lenc_pos
  have HC := Lib.hid hc
  clear hv hn hp hnl hc hl hll
  obtain ⟨nn, hnn⟩ : ∃ n, n = names.length := ⟨_, rfl⟩
  rw [← hnn] at HN hlen ⊢
  clear hnn
  obtain ⟨nl, hnl⟩ : ∃ n, n = l.length := ⟨_, rfl⟩
  rw [← hnl] at HL ⊢
  clear hnl
  obtain ⟨N, hN⟩ : ∃ n, n = ps.length := ⟨_, rfl⟩
  rw [← hN] at hlv ⊢
  have HNN := Lib.hid hN
  obtain ⟨w1, hw1⟩ : ∃ w1, w1 = w.alloc (.cells #[.int .i64 how, .slice an nn cn] 24) := ⟨_, rfl⟩
  obtain ⟨bg, hbg⟩ : ∃ b, b = w.heap.size := ⟨_, rfl⟩
  have G0 := Lib.hid (show w1.cell? ⟨bg, 0, none⟩ = some (.int .i64 how) by rw [hw1, hbg]; simp)
  have G1 := Lib.hid (show w1.cell? ⟨bg, 1, none⟩ = some (.slice an nn cn) by rw [hw1, hbg]; simp)
  have HB1 := Lib.hid (show Below w.heap.size w w1 by rw [hw1]; exact (Below.refl _ _).alloc (Nat.le_refl _) _)
  have HW1 := Lib.hid hw1
  have HBG := Lib.hid hbg
  obtain ⟨gk, hgk⟩ : ∃ g, g = signL how names l := ⟨_, rfl⟩
  have HGK := Lib.hid hgk
  rw [← hgk]
  obtain ⟨r, hr⟩ : ∃ r, r = hasSg (sgP how names) ps gk := ⟨_, rfl⟩
  rw [← hr]
  have HR := Lib.hid hr
  clear hw1 hbg hN hr hgk
  go_enter Tryz.func43, Tryz.ntmps43
  go_wp2_with fail
  rw [← HW1.out, ← HBG.out]
  go_loopw [7] (fun i wr => ∃ j : Nat, j ≤ N ∧ i = .int .i64 j ∧ Hid (∀ i (hi : i < ps.length), i < j → sgP how names ps[i] ≠ gk) ∧ Hid (Below w1.heap.size w1 wr)) (fun i _ => N - (intOf i).toNat)
  case atStart => exact ⟨0, Nat.zero_le _, rfl, (fun i hi h => absurd h (Nat.not_lt_zero _)), Below.refl _ _⟩
  case round =>
    obtain ⟨j, hj, rfl, HJ, HQ⟩ := hrel
    have h00 : (0 : Int) ≤ (j : Int) := by omega
    by_cases hlt : j < N
    · have hltz : (j : Int) < (N : Int) := by omega
      have hjp : j < ps.length := by have := HNN.out; omega
      obtain ⟨b, off, lv, rfl, k0, -, s0⟩ := HC.out j hjp
      obtain ⟨p, hpj⟩ : ∃ p, p = ps[j] := ⟨_, rfl⟩
      rw [← hpj] at s0
      have hl0 : p.1.length ≤ 1000 := HP.out p (by rw [hpj]; exact List.getElem_mem _)
      obtain ⟨a1, c1, rfl, -, -⟩ := s0.len lenc_pos
      obtain ⟨n1, hn1⟩ : ∃ n, n = p.1.length := ⟨_, rfl⟩
      rw [← hn1] at k0 s0
      have hbw := HB1.out.trans (HQ.out.mono HB1.out.size)
      have p0 := cell_below hbw (Nat.le_refl _) k0
      have g0 := cell_below HQ.out (Nat.le_refl _) G0.out
      have g1 := cell_below HQ.out (Nat.le_refl _) G1.out
      have HSI := Lib.hid (fun w' (hb : Below wr.heap.size wr w') => rsign_S how _ (.slice an nn cn) p.1 names w' ((s0.below hbw (Nat.le_refl _)).below hb (Nat.le_refl _)) ((HN.out.below hbw (Nat.le_refl _)).below hb (Nat.le_refl _)) (by omega) HNL.out)
      have HSK := Lib.hid (fun w' (hb : Below wr.heap.size wr w') => rsign_S how _ (.slice an nn cn) l names w' ((HL.out.below hbw (Nat.le_refl _)).below hb (Nat.le_refl _)) ((HN.out.below hbw (Nat.le_refl _)).below hb (Nat.le_refl _)) (by have := HLL.out; omega) HNL.out)
      rw [← HGK.out] at HSK
      obtain ⟨gi, hgi⟩ : ∃ g, g = signL how names p.1 := ⟨_, rfl⟩
      rw [← hgi] at HSI
      obtain ⟨be, hbe⟩ : ∃ b, b = decide (gi = gk) := ⟨_, rfl⟩
      have HSM := Lib.hid (fun v1 v2 w' (h1 : Sl lenc w' v1 gi) (h2 : Sl lenc w' v2 gk) => rsame_S v1 v2 gi gk w' h1 h2)
      rw [← hbe] at HSM
      have HBI := Lib.hid (show be = true ↔ sgP how names (ps[j]'hjp) = gk by
        rw [hbe, decide_eq_true_iff, hgi, hpj]; rfl)
      clear k0 s0 hpj hl0 hn1 hbw hgi hbe
      go_wp2_with fail
      have hbA : Below wr.heap.size wr wr := Below.refl _ _
      have hsA := hbA.size
      have hfst : True := trivial
      go_region_held3 (fun w' => w'.cell? ⟨bg, 0, none⟩ = some (.int .i64 how) ∧ w'.cell? ⟨bg, 1, none⟩ = some (.slice an nn cn) ∧ w'.cell? ⟨b, off + j * 2, none⟩ = some (.slice a1 n1 c1))
        (exact ⟨cell_below (B := wr.heap.size) (by go_grown) (Nat.le_refl _) g0, cell_below (B := wr.heap.size) (by go_grown) (Nat.le_refl _) g1, cell_below (B := wr.heap.size) (by go_grown) (Nat.le_refl _) p0⟩)
        (first
          | (go_at_call 29
             clear hfst
             refine (HSI.out _ (by go_grown)).mono ?_
             rintro e w3 ⟨a3, n3, c3, rfl, hs3, -, hb3⟩
             have hbA : Below wr.heap.size wr w3 := Below.trans (by go_grown) (hb3.mono (by first | exact Nat.le_refl _ | (simp; done) | (simp; omega)))
             have hsA := hbA.size)
          | (go_at_call 29
             refine (HSK.out _ hbA).mono ?_
             rintro e w4 ⟨a4, n4, c4, rfl, hs4, -, hb4⟩
             have hs3 := Sl.below hs3 hb4 (Nat.le_refl _)
             have hbA : Below wr.heap.size wr w4 := hbA.trans (hb4.mono hsA)
             have hsA := hbA.size)
          | (go_at_call 28
             refine (HSM.out _ _ _ hs3 hs4).mono ?_
             rintro e w5 ⟨rfl, hb5⟩
             have hbA : Below wr.heap.size wr w5 := hbA.trans (hb5.mono hsA)
             have hsA := hbA.size))
      have HQ5 := Lib.hid (HQ.out.trans (hbA.mono HQ.out.size))
      clear hbA hsA hs3 hs4 hb3 hb4 hb5 p0 g0 g1 HSI HSK HSM
      cases be with
      | true =>
        have hf : r = true := by rw [HR.out]; exact has_yes hjp (HBI.out.1 rfl)
        subst hf
        go_wp2_with fail
        go_ret
        exact ⟨rfl, HB1.out.trans (HQ5.out.mono HB1.out.size)⟩
      | false =>
        go_wp2_with fail
        go_roundw
        case rel => exact ⟨j + 1, by omega, by go_num, (fun i hi h => by
          by_cases e : i = j
          · subst e
            exact fun hx => by have := HBI.out.2 hx; cases this
          · exact HJ.out i hi (by omega)), HQ5.out⟩
        case measure => simp [intOf]; omega
    · have hltz : ¬ (j : Int) < (N : Int) := by omega
      have hf : r = false := by rw [HR.out]; exact has_no (fun i hi => HJ.out i hi (by have := HNN.out; omega))
      subst hf
      go_wp2_with fail
      go_ret
      exact ⟨rfl, HB1.out.trans (HQ.out.mono HB1.out.size)⟩
end Go.Proofs.YtogjcaakfnfapaaGreatDoor
