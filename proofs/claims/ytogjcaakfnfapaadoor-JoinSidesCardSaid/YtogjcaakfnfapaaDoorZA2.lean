/- The order of floats in which one comes ahead of another: plain law. The order of floats: walks, both sides. Bytes and names of labels: the code's and the document's. Lists of labels: Few, Get. Texts' order, lists' order. Lists' order: Compare, the code's and the document's. Lists' order: the code's. (Several texts in one file, by merge.py.) -/
import Derived.Test.YtogjcaakfnfapaaDoorZA1
import Derived.Sort.LotA
import Derived.Deep.Strs
import Derived.Deep.RegionLaw
import Derived.BigQuiet
import Derived.Deep.QuietTactic
import Derived.Shelf.SlSortCmp.QuietGrown
import Derived.Deep.Light
import Derived.Test.YtogjcaakfnfapaaDoorShelf
import Derived.Sort.Grow
import Derived.Deep.DeepCutAuto
namespace Go.Proofs.YtogjcaakfnfapaaDoor
open Go Go.RowKit
set_option linter.unusedVariables false
set_option linter.unusedSimpArgs false
/-- A float's kind, its value. -/
def fcls (b : Nat) : Int := match Ieee.double.read b with | .nan _ _ => -2 | .infinity true => -1 | .number _ _ _ => 0 | .infinity false => 1
def fvl (b : Nat) : Int := match Ieee.double.read b with | .number s m p => sgn s (m * 2 ^ (p + 1074).toNat) | _ => 0
def lexlt (a b : Nat) : Bool := decide (fcls a < fcls b ∨ (fcls a = fcls b ∧ fvl a < fvl b))
def lexeq (a b : Nat) : Bool := decide (fcls a = fcls b ∧ fvl a = fvl b)
theorem fcls_nan {b : Nat} (h : fnan b = true) : fcls b = -2 ∧ fvl b = 0 := by
  obtain ⟨n, q, e⟩ := read_nan h
  unfold fcls fvl
  rw [e]; exact ⟨rfl, rfl⟩
theorem fcls_num {b : Nat} (h : fnan b = false) : -1 ≤ fcls b := by
  have h1 := read_number h
  unfold fcls
  cases e : Ieee.double.read b with
  | nan n q => exact (h1 n q e).elim
  | number s m p => simp
  | infinity s => cases s <;> simp
theorem fo_lex {a b : Nat} (ha : fnan a = false) (hb : fnan b = false) : fo a b = some (if lexlt a b then .lt else if lexeq a b then .eq else .gt) := by
  have h1 := read_number ha
  have h2 := read_number hb
  show Ieee.double.order a b = _
  cases e1 : Ieee.double.read a with
  | nan n q => exact (h1 n q e1).elim
  | number s m p =>
    cases e2 : Ieee.double.read b with
    | nan n q => exact (h2 n q e2).elim
    | number t n q =>
      have hv := order_units (x := a) (y := b) ⟨m, p, e1, read_place e1, rfl⟩ ⟨n, q, e2, read_place e2, rfl⟩
      rw [hv]
      unfold lexlt lexeq fcls fvl
      rw [e1, e2]
      simp only [compare, compareOfLessAndEq, Int.lt_irrefl, false_or, true_and]
      congr 1
      by_cases c1 : sgn s (m * 2 ^ (p + 1074).toNat) < sgn t (n * 2 ^ (q + 1074).toNat)
      · simp [c1]
      · by_cases c2 : sgn s (m * 2 ^ (p + 1074).toNat) = sgn t (n * 2 ^ (q + 1074).toNat) <;> simp [c1, c2]
    | infinity t =>
      unfold Ieee.Format.order lexlt lexeq fcls fvl
      rw [e1, e2]
      cases t <;> rfl
  | infinity s =>
    cases e2 : Ieee.double.read b with
    | nan n q => exact (h2 n q e2).elim
    | number t n q =>
      unfold Ieee.Format.order lexlt lexeq fcls fvl
      rw [e1, e2]
      cases s <;> rfl
    | infinity t =>
      unfold Ieee.Format.order lexlt lexeq fcls fvl
      rw [e1, e2]
      cases s <;> cases t <;> rfl
theorem fo_lt {a b : Nat} (ha : fnan a = false) (hb : fnan b = false) : (fo a b == some .lt) = lexlt a b := by
  rw [fo_lex ha hb]
  cases h1 : lexlt a b <;> cases h2 : lexeq a b <;> simp
theorem fo_eq {a b : Nat} (ha : fnan a = false) (hb : fnan b = false) : (fo a b == some .eq) = lexeq a b := by
  rw [fo_lex ha hb]
  cases h1 : lexlt a b
  · cases h2 : lexeq a b <;> simp
  · have : lexeq a b = false := by
      unfold lexlt at h1; unfold lexeq
      have h1 := of_decide_eq_true h1
      exact decide_eq_false (by omega)
    simp [this]
/-- The sign's bit. -/
def sb (b : Nat) : Bool := decide (9223372036854775808 ≤ b)
def zer (b : Nat) : Bool := fo b 0 == some .eq
def beforeF (a b : Nat) : Bool := if fnan a || fnan b then (fnan a && !fnan b) else if zer a && zer b then (sb a && !sb b) else fo a b == some .lt
def fz (b : Nat) : Int := if zer b && !sb b then 1 else 0
theorem zero_num : fnan 0 = false := by decide +kernel
theorem zer_lex {b : Nat} (h : fnan b = false) : zer b = lexeq b 0 := fo_eq h zero_num
theorem before_key (a b : Nat) : beforeF a b = decide (fcls a < fcls b ∨ (fcls a = fcls b ∧ (fvl a < fvl b ∨ (fvl a = fvl b ∧ fz a < fz b)))) := by
  unfold beforeF
  cases ha : fnan a with
  | true =>
    obtain ⟨a1, a2⟩ := fcls_nan ha
    have az : fz a = 0 := by unfold fz zer; rw [fo_nan_l 0 ha]; rfl
    cases hb : fnan b with
    | true =>
      obtain ⟨b1, b2⟩ := fcls_nan hb
      have bz : fz b = 0 := by unfold fz zer; rw [fo_nan_l 0 hb]; rfl
      simp [a1, a2, b1, b2, az, bz]
    | false =>
      have := fcls_num hb
      simp
      omega
  | false =>
    have a0 := fcls_num ha
    cases hb : fnan b with
    | true =>
      obtain ⟨b1, b2⟩ := fcls_nan hb
      simp
      omega
    | false =>
      simp only [Bool.or_self, Bool.false_eq_true, if_false]
      unfold fz
      rw [fo_lt ha hb, zer_lex ha, zer_lex hb]
      unfold lexlt lexeq
      by_cases ca : fcls a = fcls 0 ∧ fvl a = fvl 0
      · by_cases cb : fcls b = fcls 0 ∧ fvl b = fvl 0
        · rw [decide_eq_true ca, decide_eq_true cb]
          have e1 : fcls a = fcls b := by omega
          have e2 : fvl a = fvl b := by omega
          simp only [e1, e2, Int.lt_irrefl]
          cases sb a <;> cases sb b <;> simp
        · rw [decide_eq_true ca, decide_eq_false cb]
          simp only [Bool.and_false, Bool.false_and, Bool.true_and, Bool.false_eq_true, if_false]
          rw [decide_eq_decide]
          split <;> omega
      · rw [decide_eq_false ca]
        simp only [Bool.and_false, Bool.false_and, Bool.true_and, Bool.false_eq_true, if_false]
        rw [decide_eq_decide]
        constructor
        · rintro (h | h)
          · exact .inl h
          · exact .inr ⟨h.1, .inl h.2⟩
        · rintro (h | ⟨h, h2 | ⟨h2, h3⟩⟩)
          · exact .inl h
          · exact .inr ⟨h, h2⟩
          · exfalso
            split at h3
            · rename_i hz
              simp only [Bool.and_eq_true, decide_eq_true_eq] at hz
              omega
            · omega
/-- Whether a value comes ahead of another, of topk (6), bottomk. -/
def aheadF (op : Int) (a b : Nat) : Bool := if op = 6 then beforeF b a else if fnan a || fnan b then (!fnan a && fnan b) else beforeF a b
/-- Where a value stands. -/
def akey (op : Int) (b : Nat) : Int × Int × Int := if op = 6 then (-fcls b, -fvl b, -fz b) else (if fnan b then 2 else fcls b, fvl b, fz b)
def keylt (x y : Int × Int × Int) : Bool := decide (x.1 < y.1 ∨ (x.1 = y.1 ∧ (x.2.1 < y.2.1 ∨ (x.2.1 = y.2.1 ∧ x.2.2 < y.2.2))))
theorem fcls_le (b : Nat) : fcls b ≤ 1 := by
  unfold fcls
  cases Ieee.double.read b with
  | nan n q => simp
  | number s m p => simp
  | infinity s => cases s <;> simp
theorem ahead_key (op : Int) (a b : Nat) : aheadF op a b = keylt (akey op a) (akey op b) := by
  unfold aheadF akey keylt
  by_cases h : op = 6
  · simp only [h, if_true]
    rw [before_key]
    congr 1
    apply propext
    omega
  · simp only [h, if_false]
    cases ha : fnan a with
    | true =>
      obtain ⟨a1, a2⟩ := fcls_nan ha
      have az : fz a = 0 := by unfold fz zer; rw [fo_nan_l 0 ha]; rfl
      cases hb : fnan b with
      | true =>
        obtain ⟨b1, b2⟩ := fcls_nan hb
        have bz : fz b = 0 := by unfold fz zer; rw [fo_nan_l 0 hb]; rfl
        simp [a2, b2, az, bz]
      | false =>
        have := fcls_le b
        simp
        omega
    | false =>
      cases hb : fnan b with
      | true =>
        have := fcls_le a
        simp
        omega
      | false => simp [before_key]
theorem keylt_swo {α : Type} (f : α → Int × Int × Int) : Sort.SWO (fun x y => keylt (f x) (f y)) := by
  refine ⟨fun x => ?_, fun x y z h1 h2 => ?_, fun x y z h1 h2 => ?_⟩
  · unfold keylt; exact decide_eq_false (by omega)
  · unfold keylt at *
    have h1 := of_decide_eq_true h1
    have h2 := of_decide_eq_true h2
    exact decide_eq_true (by omega)
  · unfold keylt at *
    have h1 := of_decide_eq_false h1
    have h2 := of_decide_eq_false h2
    exact decide_eq_false (by omega)
end Go.Proofs.YtogjcaakfnfapaaDoor
namespace Go.Proofs.YtogjcaakfnfapaaDoor
open Go Go.RowKit
set_option linter.unusedVariables false
set_option linter.unusedSimpArgs false
set_option maxRecDepth 100000
def FB (b : Nat) : Prop := b < 18446744073709551616
theorem signbit_any (b : Nat) (w : World) (h : FB b) : Calls Tryd.prog 66 #[.float .f64 b] w fun e w' => e = .returned (.bool (sb b)) ∧ w = w' := by
  unfold FB at h
  have hf := call_bits
  go_enter Tryd.func66, Tryd.ntmps66
  go_wp2_with fail
  go_ret
  refine ⟨ret_b ?_, rfl⟩
  unfold sb wrap64
  rw [decide_eq_decide]
  omega
theorem minusF_any (b : Nat) (w : World) (h : FB b) : Calls Tryd.prog 131 #[.float .f64 b] w fun e w' => e = .returned (.bool (sb b)) ∧ w = w' := by
  unfold FB at h
  have hf := call_bits
  go_enter Tryd.func131, Tryd.ntmps131
  go_wp2_with fail
  go_ret
  refine ⟨ret_b ?_, rfl⟩
  unfold sb
  rw [Bool.eq_iff_iff]
  simp
  omega
/-- What the walk wants of two floats: each test's fact. -/
theorem before_nan {a b : Nat} (h : (fnan a || fnan b) = true) : beforeF a b = (fnan a && !fnan b) := by unfold beforeF; rw [if_pos h]
theorem before_zero {a b : Nat} (h : (fnan a || fnan b) = false) (h2 : (zer a && zer b) = true) : beforeF a b = (sb a && !sb b) := by unfold beforeF; rw [if_neg (by rw [h]; decide), if_pos h2]
theorem before_num {a b : Nat} (h : (fnan a || fnan b) = false) (h2 : (zer a && zer b) = false) : beforeF a b = (fo a b == some .lt) := by unfold beforeF; rw [if_neg (by rw [h]; decide), if_neg (by rw [h2]; decide)]
theorem fnan_t {b : Nat} (h : fnan b = true) : FloatKind.f64.format.order b b = none := fo_nan_l b h
set_option maxHeartbeats 4000000 in
theorem before_any (a b : Nat) (w : World) (ha : FB a) (hb : FB b) : Calls Tryd.prog 27 #[.float .f64 a, .float .f64 b] w fun e w' => e = .returned (.bool (beforeF a b)) ∧ w = w' := by
  have HSA := Lib.hid (fun w => signbit_any a w ha)
  have HSB := Lib.hid (fun w => signbit_any b w hb)
  clear ha hb
  obtain ⟨r, hr⟩ : ∃ r, r = beforeF a b := ⟨_, rfl⟩
  rw [← hr]
  cases hna : fnan a with
  | true =>
    have e1 := fnan_t hna
    cases hnb : fnan b with
    | true =>
      have e2 := fnan_t hnb
      rw [before_nan (by rw [hna]; rfl), hna, hnb] at hr
      subst hr
      clear hna hnb
      go_enter Tryd.func27, Tryd.ntmps27
      go_wp2_with fail
      go_ret
      exact ⟨rfl, rfl⟩
    | false =>
      have e2 := fo_self hnb
      rw [before_nan (by rw [hna]; rfl), hna, hnb] at hr
      subst hr
      clear hna hnb
      go_enter Tryd.func27, Tryd.ntmps27
      go_wp2_with fail
      go_ret
      exact ⟨rfl, rfl⟩
  | false =>
    have e1 := fo_self hna
    cases hnb : fnan b with
    | true =>
      have e2 := fnan_t hnb
      rw [before_nan (by rw [hnb]; simp), hna, hnb] at hr
      subst hr
      clear hna hnb
      go_enter Tryd.func27, Tryd.ntmps27
      go_wp2_with fail
      go_ret
      exact ⟨rfl, rfl⟩
    | false =>
      have e2 := fo_self hnb
      have hn0 : (fnan a || fnan b) = false := by rw [hna, hnb]; rfl
      cases hza : zer a with
      | true =>
        have z1 : (FloatKind.f64.format.order a 0 == some .eq) = true := hza
        cases hzb : zer b with
        | true =>
          have z2 : (FloatKind.f64.format.order b 0 == some .eq) = true := hzb
          rw [before_zero hn0 (by rw [hza, hzb]; rfl)] at hr
          obtain ⟨s1, hs1⟩ : ∃ s, s = sb a := ⟨_, rfl⟩
          obtain ⟨s2, hs2⟩ : ∃ s, s = sb b := ⟨_, rfl⟩
          rw [← hs1, ← hs2] at hr
          rw [← hs1] at HSA
          rw [← hs2] at HSB
          subst hr
          clear hna hnb hn0 hza hzb hs1 hs2
          cases s1 with
          | true =>
            go_enter Tryd.func27, Tryd.ntmps27
            go_wp2_with fail
            refine (HSA.out _).mono ?_
            rintro e w1 ⟨rfl, rfl⟩
            go_wp2_with fail
            refine (HSB.out _).mono ?_
            rintro e w1 ⟨rfl, rfl⟩
            go_wp2_with fail
            go_ret
            exact ⟨rfl, rfl⟩
          | false =>
            go_enter Tryd.func27, Tryd.ntmps27
            go_wp2_with fail
            refine (HSA.out _).mono ?_
            rintro e w1 ⟨rfl, rfl⟩
            go_wp2_with fail
            go_ret
            exact ⟨rfl, rfl⟩
        | false =>
          have z2 : (FloatKind.f64.format.order b 0 == some .eq) = false := hzb
          rw [before_num hn0 (by rw [hza, hzb]; rfl)] at hr
          have HR := Lib.hid hr
          clear hna hnb hn0 hza hzb hr
          go_enter Tryd.func27, Tryd.ntmps27
          go_wp2_with fail
          go_ret
          exact ⟨by rw [HR.out] <;> rfl, rfl⟩
      | false =>
        have z1 : (FloatKind.f64.format.order a 0 == some .eq) = false := hza
        rw [before_num hn0 (by rw [hza]; rfl)] at hr
        have HR := Lib.hid hr
        clear hna hnb hn0 hza hr
        go_enter Tryd.func27, Tryd.ntmps27
        go_wp2_with fail
        go_ret
        exact ⟨by rw [HR.out] <;> rfl, rfl⟩
set_option maxHeartbeats 4000000 in
theorem rbefore_any (a b : Nat) (w : World) (ha : FB a) (hb : FB b) : Calls Tryd.prog 121 #[.float .f64 a, .float .f64 b] w fun e w' => e = .returned (.bool (beforeF a b)) ∧ w = w' := by
  have HSA := Lib.hid (fun w => minusF_any a w ha)
  have HSB := Lib.hid (fun w => minusF_any b w hb)
  clear ha hb
  obtain ⟨r, hr⟩ : ∃ r, r = beforeF a b := ⟨_, rfl⟩
  rw [← hr]
  cases hna : fnan a with
  | true =>
    have e1 := fnan_t hna
    cases hnb : fnan b with
    | true =>
      have e2 := fnan_t hnb
      rw [before_nan (by rw [hna]; rfl), hna, hnb] at hr
      subst hr
      clear hna hnb
      go_enter Tryd.func121, Tryd.ntmps121
      go_wp2_with fail
      go_ret
      exact ⟨rfl, rfl⟩
    | false =>
      have e2 := fo_self hnb
      rw [before_nan (by rw [hna]; rfl), hna, hnb] at hr
      subst hr
      clear hna hnb
      go_enter Tryd.func121, Tryd.ntmps121
      go_wp2_with fail
      go_ret
      exact ⟨rfl, rfl⟩
  | false =>
    have e1 := fo_self hna
    cases hnb : fnan b with
    | true =>
      have e2 := fnan_t hnb
      rw [before_nan (by rw [hnb]; simp), hna, hnb] at hr
      subst hr
      clear hna hnb
      go_enter Tryd.func121, Tryd.ntmps121
      go_wp2_with fail
      go_ret
      exact ⟨rfl, rfl⟩
    | false =>
      have e2 := fo_self hnb
      have hn0 : (fnan a || fnan b) = false := by rw [hna, hnb]; rfl
      cases hza : zer a with
      | true =>
        have z1 : (FloatKind.f64.format.order a 0 == some .eq) = true := hza
        cases hzb : zer b with
        | true =>
          have z2 : (FloatKind.f64.format.order b 0 == some .eq) = true := hzb
          rw [before_zero hn0 (by rw [hza, hzb]; rfl)] at hr
          obtain ⟨s1, hs1⟩ : ∃ s, s = sb a := ⟨_, rfl⟩
          obtain ⟨s2, hs2⟩ : ∃ s, s = sb b := ⟨_, rfl⟩
          rw [← hs1, ← hs2] at hr
          rw [← hs1] at HSA
          rw [← hs2] at HSB
          subst hr
          clear hna hnb hn0 hza hzb hs1 hs2
          cases s1 with
          | true =>
            go_enter Tryd.func121, Tryd.ntmps121
            go_wp2_with fail
            refine (HSA.out _).mono ?_
            rintro e w1 ⟨rfl, rfl⟩
            go_wp2_with fail
            refine (HSB.out _).mono ?_
            rintro e w1 ⟨rfl, rfl⟩
            go_wp2_with fail
            go_ret
            exact ⟨rfl, rfl⟩
          | false =>
            go_enter Tryd.func121, Tryd.ntmps121
            go_wp2_with fail
            refine (HSA.out _).mono ?_
            rintro e w1 ⟨rfl, rfl⟩
            go_wp2_with fail
            go_ret
            exact ⟨rfl, rfl⟩
        | false =>
          have z2 : (FloatKind.f64.format.order b 0 == some .eq) = false := hzb
          rw [before_num hn0 (by rw [hza, hzb]; rfl)] at hr
          have HR := Lib.hid hr
          clear hna hnb hn0 hza hzb hr
          go_enter Tryd.func121, Tryd.ntmps121
          go_wp2_with fail
          go_ret
          exact ⟨by rw [HR.out] <;> rfl, rfl⟩
      | false =>
        have z1 : (FloatKind.f64.format.order a 0 == some .eq) = false := hza
        rw [before_num hn0 (by rw [hza]; rfl)] at hr
        have HR := Lib.hid hr
        clear hna hnb hn0 hza hr
        go_enter Tryd.func121, Tryd.ntmps121
        go_wp2_with fail
        go_ret
        exact ⟨by rw [HR.out] <;> rfl, rfl⟩
theorem ahead_top {op : Int} {a b : Nat} (h : op = 6) : aheadF op a b = beforeF b a := if_pos h
theorem ahead_nan {op : Int} {a b : Nat} (h : op ≠ 6) (h2 : (fnan a || fnan b) = true) : aheadF op a b = (!fnan a && fnan b) := by unfold aheadF; rw [if_neg h, if_pos h2]
theorem ahead_num {op : Int} {a b : Nat} (h : op ≠ 6) (h2 : (fnan a || fnan b) = false) : aheadF op a b = beforeF a b := by unfold aheadF; rw [if_neg h, if_neg (by rw [h2]; decide)]
set_option maxHeartbeats 4000000 in
theorem ahead_any (op : Int) (a b : Nat) (w : World) (ha : FB a) (hb : FB b) : Calls Tryd.prog 94 #[.int .i64 op, .float .f64 a, .float .f64 b] w fun e w' => e = .returned (.bool (aheadF op a b)) ∧ w = w' := by
  have H1 := Lib.hid (fun w => before_any b a w hb ha)
  have H2 := Lib.hid (fun w => before_any a b w ha hb)
  clear ha hb
  obtain ⟨r, hr⟩ : ∃ r, r = aheadF op a b := ⟨_, rfl⟩
  rw [← hr]
  by_cases h6 : op = 6
  · rw [ahead_top h6] at hr
    rw [← hr] at H1
    subst h6
    clear hr
    go_enter Tryd.func94, Tryd.ntmps94
    go_wp2_with fail
    refine (H1.out _).mono ?_
    rintro e w1 ⟨rfl, rfl⟩
    go_wp2_with fail
    go_ret
    exact ⟨rfl, rfl⟩
  · have h7 : (op == 6) = false := by simpa using h6
    cases hna : fnan a with
    | true =>
      have e1 := fnan_t hna
      rw [ahead_nan h6 (by rw [hna]; rfl), hna] at hr
      subst hr
      clear hna h6
      go_enter Tryd.func94, Tryd.ntmps94
      go_wp2_with fail
      go_ret
      exact ⟨rfl, rfl⟩
    | false =>
      have e1 := fo_self hna
      cases hnb : fnan b with
      | true =>
        have e2 := fnan_t hnb
        rw [ahead_nan h6 (by rw [hnb]; simp), hna, hnb] at hr
        subst hr
        clear hna hnb h6
        go_enter Tryd.func94, Tryd.ntmps94
        go_wp2_with fail
        go_ret
        exact ⟨rfl, rfl⟩
      | false =>
        have e2 := fo_self hnb
        rw [ahead_num h6 (by rw [hna, hnb]; rfl)] at hr
        rw [← hr] at H2
        clear hna hnb h6 hr
        go_enter Tryd.func94, Tryd.ntmps94
        go_wp2_with fail
        refine (H2.out _).mono ?_
        rintro e w1 ⟨rfl, rfl⟩
        go_wp2_with fail
        go_ret
        exact ⟨rfl, rfl⟩
set_option maxHeartbeats 4000000 in
theorem rahead_any (op : Int) (a b : Nat) (w : World) (ha : FB a) (hb : FB b) : Calls Tryd.prog 97 #[.int .i64 op, .float .f64 a, .float .f64 b] w fun e w' => e = .returned (.bool (aheadF op a b)) ∧ w = w' := by
  have H1 := Lib.hid (fun w => rbefore_any b a w hb ha)
  have H2 := Lib.hid (fun w => rbefore_any a b w ha hb)
  clear ha hb
  obtain ⟨r, hr⟩ : ∃ r, r = aheadF op a b := ⟨_, rfl⟩
  rw [← hr]
  by_cases h6 : op = 6
  · rw [ahead_top h6] at hr
    rw [← hr] at H1
    subst h6
    clear hr
    go_enter Tryd.func97, Tryd.ntmps97
    go_wp2_with fail
    refine (H1.out _).mono ?_
    rintro e w1 ⟨rfl, rfl⟩
    go_wp2_with fail
    go_ret
    exact ⟨rfl, rfl⟩
  · have h7 : (op == 6) = false := by simpa using h6
    cases hna : fnan a with
    | true =>
      have e1 := fnan_t hna
      rw [ahead_nan h6 (by rw [hna]; rfl), hna] at hr
      subst hr
      clear hna h6
      go_enter Tryd.func97, Tryd.ntmps97
      go_wp2_with fail
      go_ret
      exact ⟨rfl, rfl⟩
    | false =>
      have e1 := fo_self hna
      cases hnb : fnan b with
      | true =>
        have e2 := fnan_t hnb
        rw [ahead_nan h6 (by rw [hnb]; simp), hna, hnb] at hr
        subst hr
        clear hna hnb h6
        go_enter Tryd.func97, Tryd.ntmps97
        go_wp2_with fail
        go_ret
        exact ⟨rfl, rfl⟩
      | false =>
        have e2 := fo_self hnb
        rw [ahead_num h6 (by rw [hna, hnb]; rfl)] at hr
        rw [← hr] at H2
        clear hna hnb h6 hr
        go_enter Tryd.func97, Tryd.ntmps97
        go_wp2_with fail
        refine (H2.out _).mono ?_
        rintro e w1 ⟨rfl, rfl⟩
        go_wp2_with fail
        go_ret
        exact ⟨rfl, rfl⟩
end Go.Proofs.YtogjcaakfnfapaaDoor
namespace Go.Proofs.YtogjcaakfnfapaaDoor
open Go.RowKit
set_option linter.unusedVariables false
set_option linter.unusedSimpArgs false
set_option maxRecDepth 100000

def letterB (c : Int) : Bool := (decide (65 ≤ c) && decide (c ≤ 90)) || (decide (97 ≤ c) && decide (c ≤ 122)) || decide (c = 95)
def digitB (c : Int) : Bool := decide (48 ≤ c) && decide (c ≤ 57)
theorem letter_any (c : Int) (w : World) : Calls Tryd.prog 122 #[.int .u8 c] w fun e w' => e = .returned (.bool (letterB c)) ∧ w' = w := by
  by_cases h1 : 65 ≤ c <;> by_cases h2 : c ≤ 90 <;> by_cases h3 : 97 ≤ c <;> by_cases h4 : c ≤ 122 <;> by_cases h5 : c = 95
  all_goals first | (exfalso; omega) | skip
  all_goals first | have h6 : (c == 95) = false := by simp; omega | have h6 : (c == 95) = true := by simp; omega
  all_goals
    go_enter Tryd.func122, Tryd.ntmps122
    go_wp2_with fail
    go_ret
    exact ⟨by first | (simp [letterB, *]; done) | (simp [letterB, *]; omega), rfl⟩
theorem rletter_any (c : Int) (w : World) : Calls Tryd.prog 103 #[.int .u8 c] w fun e w' => e = .returned (.bool (letterB c)) ∧ w' = w := by
  by_cases h1 : 65 ≤ c <;> by_cases h2 : c ≤ 90 <;> by_cases h3 : 97 ≤ c <;> by_cases h4 : c ≤ 122 <;> by_cases h5 : c = 95
  all_goals first | (exfalso; omega) | skip
  all_goals first | have h6 : (c == 95) = false := by simp; omega | have h6 : (c == 95) = true := by simp; omega
  all_goals
    go_enter Tryd.func103, Tryd.ntmps103
    go_wp2_with fail
    go_ret
    exact ⟨by first | (simp [letterB, *]; done) | (simp [letterB, *]; omega), rfl⟩
theorem digit_any (c : Int) (w : World) : Calls Tryd.prog 123 #[.int .u8 c] w fun e w' => e = .returned (.bool (digitB c)) ∧ w' = w := by
  by_cases h1 : 48 ≤ c <;> by_cases h2 : c ≤ 57
  all_goals
    go_enter Tryd.func123, Tryd.ntmps123
    go_wp2_with fail
    go_ret
    exact ⟨by simp [digitB, *], rfl⟩
theorem rdigit_any (c : Int) (w : World) : Calls Tryd.prog 104 #[.int .u8 c] w fun e w' => e = .returned (.bool (digitB c)) ∧ w' = w := by
  by_cases h1 : 48 ≤ c <;> by_cases h2 : c ≤ 57
  all_goals
    go_enter Tryd.func104, Tryd.ntmps104
    go_wp2_with fail
    go_ret
    exact ⟨by simp [digitB, *], rfl⟩

/-- A label's name: a letter ahead, letters and digits behind. -/
def bt (s : ByteArray) (i : Nat) : Int := ((s.data[i]?).getD 0).toNat
theorem bt_eq (s : ByteArray) (i : Nat) (h : i < s.size) : (s[i].toNat : Int) = bt s i := by
  have h' : i < s.data.size := h
  unfold bt
  rw [Array.getElem?_eq_getElem h']
  rfl
def partB (c : Int) : Bool := letterB c || digitB c
def nameB (s : ByteArray) : Bool := decide (0 < s.size) && decide (s.size ≤ 64) && letterB (bt s 0) && (List.range s.size).all fun j => partB (bt s j)
theorem nameB_true {s : ByteArray} (h0 : 0 < s.size) (h1 : s.size ≤ 64) (h2 : letterB (bt s 0) = true) (h3 : ∀ j, j < s.size → partB (bt s j) = true) : nameB s = true := by
  unfold nameB
  simp [h0, h1, h2]
  exact h3
theorem nameB_false {s : ByteArray} (h : s.size = 0 ∨ 64 < s.size ∨ letterB (bt s 0) = false ∨ ∃ j, j < s.size ∧ partB (bt s j) = false) : nameB s = false := by
  unfold nameB
  rcases h with h | h | h | ⟨j, h1, h2⟩
  · simp [h]
  · simp; intros; omega
  · simp [h]
  · have : (List.range s.size).all (fun j => partB (bt s j)) = false := by
      rw [List.all_eq_false]
      exact ⟨j, List.mem_range.mpr h1, by simp [h2]⟩
    rw [this, Bool.and_false]

theorem empty_of {s : ByteArray} (h : s.size = 0) : s.toList = [] := by
  rw [ByteArray.toList_eq]
  have : s.data.toList.length = 0 := h
  exact List.length_eq_zero_iff.mp this
theorem not_empty_of {s : ByteArray} (h : 0 < s.size) : ¬ s.toList = [] := by
  rw [ByteArray.toList_eq]
  intro he
  have h2 : 0 < s.data.toList.length := h
  rw [he] at h2
  simp at h2
set_option maxHeartbeats 2000000 in
theorem rname_any (s : ByteArray) (w : World) : Calls Tryd.prog 58 #[.string s] w fun e w' => e = .returned (.bool (nameB s)) ∧ w' = w := by
  by_cases h0 : s.size = 0
  · have h1 : s.toList = [] := empty_of h0
    rw [nameB_false (.inl h0)]
    go_enter Tryd.func58, Tryd.ntmps58
    go_wp2_with fail
    go_ret
    exact ⟨rfl, rfl⟩
  · have hp : 0 < s.size := by omega
    have h1 : ¬ s.toList = [] := not_empty_of hp
    by_cases h2 : 64 < s.size
    · rw [nameB_false (.inr (.inl h2))]
      have h3 : ¬ (s.size : Int) ≤ 64 := by omega
      go_enter Tryd.func58, Tryd.ntmps58
      go_wp2_with fail
      go_ret
      exact ⟨rfl, rfl⟩
    · have h3 : (s.size : Int) ≤ 64 := by omega
      have h4 : s.toList.isEmpty = false := by simpa using h1
      have h5 : decide (64 < (s.size : Int)) = false := by simp; omega
      have e0 := bt_eq s 0 hp
      have E0 := Lib.hid e0
      clear e0
      go_enter Tryd.func58, Tryd.ntmps58
      go_wp2_with fail
      refine (rletter_any _ _).mono ?_
      rintro e w1 ⟨rfl, rfl⟩
      rw [E0.out]
      by_cases hL : letterB (bt s 0) = true
      · go_wp2_with fail
        go_loopw [3] (fun iv wr => ∃ i : Nat, iv = .int .i64 i ∧ 1 ≤ i ∧ i ≤ s.size ∧ wr = w1 ∧ Hid (∀ j, 1 ≤ j → j < i → partB (bt s j) = true)) (fun iv _ => s.size - (intOf iv).toNat)
        case atStart => exact ⟨1, rfl, Nat.le_refl _, hp, rfl, fun j h1 h2 => by omega⟩
        case round =>
          obtain ⟨i, rfl, hi1, hi2, rfl, HI⟩ := hrel
          by_cases hlt : i < s.size
          · have hltz : (i : Int) < (s.size : Int) := by omega
            have EI := Lib.hid (bt_eq s i hlt)
            have ea : ((i : Int)).toNat = i := by omega
            go_wp2_with fail
            refine (rletter_any _ _).mono ?_
            rintro e w2 ⟨rfl, rfl⟩
            rw [EI.out]
            by_cases hl : letterB (bt s i) = true
            · go_wp2_with fail
              go_roundw
              case rel => exact ⟨i + 1, by first | rfl | go_num, by omega, by omega, by trivial, fun j h1 h2 => by
                by_cases hj : j = i
                · subst hj; simp [partB, hl]
                · exact HI.out j h1 (by omega)⟩
              case measure => simp [intOf]; omega
            · have hl2 : letterB (bt s i) = false := by simpa using hl
              go_wp2_with fail
              refine (rdigit_any _ _).mono ?_
              rintro e w2 ⟨rfl, rfl⟩
              rw [EI.out]
              by_cases hd : digitB (bt s i) = true
              · go_wp2_with fail
                go_roundw
                case rel => exact ⟨i + 1, by first | rfl | go_num, by omega, by omega, by trivial, fun j h1 h2 => by
                  by_cases hj : j = i
                  · subst hj; simp [partB, hd]
                  · exact HI.out j h1 (by omega)⟩
                case measure => simp [intOf]; omega
              · have hd2 : digitB (bt s i) = false := by simpa using hd
                go_wp2_with fail
                go_ret
                exact ⟨by rw [nameB_false (.inr (.inr (.inr ⟨i, hlt, by simp [partB, hl2, hd2]⟩)))] <;> rfl, rfl⟩
          · have hltz : ¬ (i : Int) < (s.size : Int) := by omega
            go_wp2_with fail
            go_ret
            have hn := nameB_true hp (by omega) hL (fun j hj => by
              by_cases hj0 : j = 0
              · subst hj0; simp [partB, hL]
              · exact HI.out j (by omega) (by omega))
            exact ⟨by rw [hn] <;> rfl, rfl⟩
      · have hL2 : letterB (bt s 0) = false := by simpa using hL
        go_wp2_with fail
        go_ret
        exact ⟨by rw [nameB_false (.inr (.inr (.inl hL2)))] <;> rfl, rfl⟩
set_option maxHeartbeats 2000000 in
theorem name_any (s : ByteArray) (w : World) : Calls Tryd.prog 102 #[.string s] w fun e w' => e = .returned (.bool (nameB s)) ∧ w' = w := by
  by_cases h0 : s.size = 0
  · have h1 : s.toList = [] := empty_of h0
    rw [nameB_false (.inl h0)]
    go_enter Tryd.func102, Tryd.ntmps102
    go_wp2_with fail
    go_ret
    exact ⟨rfl, rfl⟩
  · have hp : 0 < s.size := by omega
    have h1 : ¬ s.toList = [] := not_empty_of hp
    by_cases h2 : 64 < s.size
    · rw [nameB_false (.inr (.inl h2))]
      have h3 : ¬ (s.size : Int) ≤ 64 := by omega
      go_enter Tryd.func102, Tryd.ntmps102
      go_wp2_with fail
      go_ret
      exact ⟨rfl, rfl⟩
    · have h3 : (s.size : Int) ≤ 64 := by omega
      have h4 : s.toList.isEmpty = false := by simpa using h1
      have h5 : decide (64 < (s.size : Int)) = false := by simp; omega
      have e0 := bt_eq s 0 hp
      have E0 := Lib.hid e0
      clear e0
      go_enter Tryd.func102, Tryd.ntmps102
      go_wp2_with fail
      refine (letter_any _ _).mono ?_
      rintro e w1 ⟨rfl, rfl⟩
      rw [E0.out]
      by_cases hL : letterB (bt s 0) = true
      · go_wp2_with fail
        go_loopw [19] (fun iv wr => ∃ i : Nat, iv = .int .i64 i ∧ i ≤ s.size ∧ wr = w1 ∧ Hid (∀ j, j < i → partB (bt s j) = true)) (fun iv _ => s.size - (intOf iv).toNat)
        case atStart => exact ⟨0, rfl, Nat.zero_le _, rfl, fun j h2 => absurd h2 (Nat.not_lt_zero _)⟩
        case round =>
          obtain ⟨i, rfl, hi2, rfl, HI⟩ := hrel
          by_cases hlt : i < s.size
          · have hltz : (i : Int) < (s.size : Int) := by omega
            have EI := Lib.hid (bt_eq s i hlt)
            have ea : ((i : Int)).toNat = i := by omega
            go_wp2_with fail
            refine (letter_any _ _).mono ?_
            rintro e w2 ⟨rfl, rfl⟩
            rw [EI.out]
            by_cases hl : letterB (bt s i) = true
            · go_wp2_with fail
              go_roundw
              case rel => exact ⟨i + 1, by first | rfl | go_num, by omega, by trivial, fun j h2 => by
                by_cases hj : j = i
                · subst hj; simp [partB, hl]
                · exact HI.out j (by omega)⟩
              case measure => simp [intOf]; omega
            · have hl2 : letterB (bt s i) = false := by simpa using hl
              go_wp2_with fail
              refine (digit_any _ _).mono ?_
              rintro e w2 ⟨rfl, rfl⟩
              rw [EI.out]
              by_cases hd : digitB (bt s i) = true
              · go_wp2_with fail
                go_roundw
                case rel => exact ⟨i + 1, by first | rfl | go_num, by omega, by trivial, fun j h2 => by
                  by_cases hj : j = i
                  · subst hj; simp [partB, hd]
                  · exact HI.out j (by omega)⟩
                case measure => simp [intOf]; omega
              · have hd2 : digitB (bt s i) = false := by simpa using hd
                go_wp2_with fail
                go_ret
                exact ⟨by rw [nameB_false (.inr (.inr (.inr ⟨i, hlt, by simp [partB, hl2, hd2]⟩)))] <;> rfl, rfl⟩
          · have hltz : ¬ (i : Int) < (s.size : Int) := by omega
            go_wp2_with fail
            go_ret
            have hn := nameB_true hp (by omega) hL (fun j hj => HI.out j (by omega))
            exact ⟨by rw [hn] <;> rfl, rfl⟩
      · have hL2 : letterB (bt s 0) = false := by simpa using hL
        go_wp2_with fail
        go_ret
        exact ⟨by rw [nameB_false (.inr (.inr (.inl hL2)))] <;> rfl, rfl⟩
end Go.Proofs.YtogjcaakfnfapaaDoor
namespace Go.Proofs.YtogjcaakfnfapaaDoor
open Go.RowKit
set_option linter.unusedVariables false
set_option linter.unusedSimpArgs false
set_option maxRecDepth 100000

abbrev Lb := ByteArray × ByteArray
def lenc (m : Lb) : List Value := [.string m.1, .string m.2]
theorem lenc_len (m : Lb) : (lenc m).length = 2 := rfl
def lx (cs : List Lb) (k : Nat) : Lb := cs.getD k (ByteArray.empty, ByteArray.empty)
theorem lx_at {cs : List Lb} {k : Nat} (h : k < cs.length) : lx cs k = cs[k] := by simp [lx, h]
def getL (name : ByteArray) : List Lb → ByteArray
  | [] => ⟨#[]⟩
  | c :: cs => if c.1.toList == name.toList then c.2 else getL name cs
/-- A label's two cells, in a later world. -/
theorem lab_cells {w wr : World} {a : Option Addr} {cs : List Lb} {B k : Nat} (HC : ∀ k (hk : k < cs.length), ∃ b off, a = some ⟨b, off, none⟩ ∧ ∀ i u, (lenc cs[k])[i]? = some u → w.cell? ⟨b, off + (k * 2 + i), none⟩ = some u) (hb : Below B w wr) (hB : w.heap.size ≤ B) (hlt : k < cs.length) :
    ∃ b off, a = some ⟨b, off, none⟩ ∧ wr.cell? ⟨b, off + k * 2, none⟩ = some (.string (lx cs k).1) ∧ wr.cell? ⟨b, off + k * 2 + 1, none⟩ = some (.string (lx cs k).2) := by
  obtain ⟨b, off, rfl, hcc⟩ := HC k hlt
  refine ⟨b, off, rfl, ?_, ?_⟩
  · rw [lx_at hlt]; exact cell_below hb hB (hcc 0 _ rfl)
  · rw [lx_at hlt]; exact cell_below hb hB (hcc 1 _ rfl)

set_option maxHeartbeats 1000000 in
theorem get_any (v : Value) (cs : List Lb) (name : ByteArray) (w : World) (h : Sl lenc w v cs) :
    Calls Tryd.prog 111 #[v, .string name] w fun e w' => e = .returned (.string (getL name cs)) ∧ Below w.heap.size w w' := by
  obtain ⟨a, cap, rfl, hlen, -, hc⟩ := h.split lenc_len
  have HC := Lib.hid hc
  clear hc h
  go_enter Tryd.func111, Tryd.ntmps111
  go_wp2_with fail
  go_loopw [9] (fun i wr => ∃ k : Nat, k ≤ cs.length ∧ i = .int .i64 k ∧ Hid (getL name (cs.drop k) = getL name cs) ∧ Below w.heap.size w wr) (fun i _ => cs.length - (intOf i).toNat)
  case atStart => exact ⟨0, Nat.zero_le _, rfl, rfl, Below.refl _ _⟩
  case round =>
    obtain ⟨k, hk, rfl, HV, hb⟩ := hrel
    by_cases hlt : k < cs.length
    · obtain ⟨b, off, rfl, hk0, hk1⟩ := lab_cells HC.out hb (Nat.le_refl _) hlt
      have HD := Lib.hid (show cs.drop k = lx cs k :: cs.drop (k + 1) by rw [List.drop_eq_getElem_cons hlt]; simp [lx, hlt])
      have hs := hb.size
      have hltz : (k : Int) < (cs.length : Int) := by omega
      by_cases he : ((lx cs k).1.toList == name.toList) = true
      · go_wp2_with fail
        go_ret
        exact ⟨by rw [← HV.out, HD.out, getL, if_pos he] <;> rfl, by first | exact hb.alloc hs _ | exact below_drewN (hb.alloc hs _) _⟩
      · have he2 : ((lx cs k).1.toList == name.toList) = false := by simpa using he
        go_wp2_with fail
        go_roundw
        case rel => exact ⟨k + 1, by omega, by go_num, by show _ = _; rw [← HV.out, HD.out, getL, if_neg he], hb.alloc hs _⟩
        case measure => simp [intOf]; omega
    · have hltz : ¬ (k : Int) < (cs.length : Int) := by omega
      go_wp2_with fail
      go_ret
      exact ⟨by rw [← HV.out, List.drop_eq_nil_of_le (by omega)]; rfl, hb⟩

end Go.Proofs.YtogjcaakfnfapaaDoor
namespace Go.Proofs.YtogjcaakfnfapaaDoor
open Go.RowKit
set_option linter.unusedVariables false
set_option linter.unusedSimpArgs false
set_option maxRecDepth 100000
open Lib (compareBytes)
theorem u8_eq {a b : UInt8} (h1 : ¬ a < b) (h2 : ¬ b < a) : a = b := UInt8.le_antisymm (UInt8.not_lt.mp h2) (UInt8.not_lt.mp h1)
theorem u8_asym {a b : UInt8} (h1 : a < b) : ¬ b < a := fun h2 => absurd (UInt8.lt_trans h1 h2) (UInt8.lt_irrefl _)
theorem cb_cases : ∀ x y : List UInt8, compareBytes x y = -1 ∨ compareBytes x y = 0 ∨ compareBytes x y = 1 := by
  intro x
  induction x with
  | nil => intro y; cases y <;> simp [compareBytes]
  | cons a x ih =>
    intro y
    cases y with
    | nil => simp [compareBytes]
    | cons b y =>
      simp only [compareBytes]
      split
      · simp
      · split
        · simp
        · exact ih y
theorem cb_neg : ∀ x y : List UInt8, compareBytes y x = - compareBytes x y := by
  intro x
  induction x with
  | nil => intro y; cases y <;> simp [compareBytes]
  | cons a x ih =>
    intro y
    cases y with
    | nil => simp [compareBytes]
    | cons b y =>
      simp only [compareBytes]
      by_cases h1 : a < b
      · rw [if_pos h1, if_neg (u8_asym h1), if_pos h1]; rfl
      · rw [if_neg h1, if_neg h1]
        by_cases h2 : b < a
        · rw [if_pos h2, if_pos h2]
        · rw [if_neg h2, if_neg h2]; exact ih y
theorem cb_eq : ∀ x y : List UInt8, compareBytes x y = 0 ↔ x = y := by
  intro x
  induction x with
  | nil => intro y; cases y <;> simp [compareBytes]
  | cons a x ih =>
    intro y
    cases y with
    | nil => simp [compareBytes]
    | cons b y =>
      simp only [compareBytes]
      by_cases h1 : a < b
      · rw [if_pos h1]
        exact ⟨fun h => by simp at h, fun h => by injection h with h; subst h; exact absurd h1 (UInt8.lt_irrefl _)⟩
      · rw [if_neg h1]
        by_cases h2 : b < a
        · rw [if_pos h2]
          exact ⟨fun h => by simp at h, fun h => by injection h with h; subst h; exact absurd h2 (UInt8.lt_irrefl _)⟩
        · rw [if_neg h2, ih y]
          have := u8_eq h1 h2
          subst this
          simp
theorem cb_less : ∀ x y : List UInt8, Op.bytesLess x y = decide (compareBytes x y = -1) := by
  intro x
  induction x with
  | nil => intro y; cases y <;> simp [compareBytes, Op.bytesLess]
  | cons a x ih =>
    intro y
    cases y with
    | nil => simp [compareBytes, Op.bytesLess]
    | cons b y =>
      simp only [compareBytes, Op.bytesLess, ih y]
      by_cases h1 : a < b
      · simp [h1]
      · by_cases h2 : b < a
        · have : (a == b) = false := by
            cases h : a == b with
            | false => rfl
            | true => have := eq_of_beq h; subst this; exact absurd h2 (UInt8.lt_irrefl _)
          simp [h1, h2, this]
        · have := u8_eq h1 h2
          subst this
          simp [h1]
theorem cb_trans : ∀ x y z : List UInt8, compareBytes x y ≤ 0 → compareBytes y z ≤ 0 → compareBytes x z ≤ 0 ∧ (compareBytes x y < 0 ∨ compareBytes y z < 0 → compareBytes x z < 0) := by
  intro x
  induction x with
  | nil => intro y z; cases y <;> cases z <;> simp [compareBytes]
  | cons a x ih =>
    intro y z
    cases y with
    | nil => simp [compareBytes]
    | cons b y =>
      cases z with
      | nil => intro h1 h2; simp [compareBytes] at h2
      | cons c z =>
        simp only [compareBytes]
        by_cases h1 : a < b
        · rw [if_pos h1]
          by_cases h2 : b < c
          · rw [if_pos h2, if_pos (UInt8.lt_trans h1 h2)]; simp
          · rw [if_neg h2]
            by_cases h3 : c < b
            · rw [if_pos h3]; intro _ h; simp at h
            · have := u8_eq h2 h3
              subst this
              rw [if_pos h1]; simp
        · rw [if_neg h1]
          by_cases h2 : b < a
          · rw [if_pos h2]; intro h; simp at h
          · have := u8_eq h1 h2
            subst this
            rw [if_neg h2]
            by_cases h2 : a < c
            · simp only [if_pos h2]; intros; simp
            · simp only [if_neg h2]
              by_cases h3 : c < a
              · simp only [if_pos h3]; intro _ h; simp at h
              · simp only [if_neg h3]; exact ih y z

/-- Of two texts: which stands first. -/
def cmpS (a b : ByteArray) : Int := compareBytes a.data.toList b.data.toList
theorem order_any (a b : ByteArray) (w : World) : Calls Tryd.prog 105 #[.string a, .string b] w fun e w' => e = .returned (.int .i64 (cmpS a b)) ∧ w' = w := by
  have hl : Op.bytesLess a.toList b.toList = decide (cmpS a b = -1) := by rw [ByteArray.toList_eq, ByteArray.toList_eq]; exact cb_less _ _
  have he : (a.toList == b.toList) = decide (cmpS a b = 0) := by
    rw [ByteArray.toList_eq, ByteArray.toList_eq, Bool.eq_iff_iff]
    simp [cmpS, cb_eq]
  rcases cb_cases a.data.toList b.data.toList with h | h | h
  · have h' : cmpS a b = -1 := h
    rw [h'] at hl he ⊢
    have hl2 : Op.bytesLess a.toList b.toList = true := hl
    go_enter Tryd.func105, Tryd.ntmps105
    go_wp2_with fail
    go_ret
    exact ⟨rfl, rfl⟩
  · have h' : cmpS a b = 0 := h
    rw [h'] at hl he ⊢
    have hl2 : Op.bytesLess a.toList b.toList = false := hl
    have he2 : (!(a.toList == b.toList)) = false := by rw [he]; rfl
    have he3 : (a.toList == b.toList) = true := he
    clear hl he
    go_enter Tryd.func105, Tryd.ntmps105
    go_wp2_with fail
    all_goals first | (exfalso; simp_all; done) | (go_ret; exact ⟨rfl, rfl⟩)
  · have h' : cmpS a b = 1 := h
    rw [h'] at hl he ⊢
    have hl2 : Op.bytesLess a.toList b.toList = false := hl
    have he2 : (!(a.toList == b.toList)) = true := by rw [he]; rfl
    have he3 : (a.toList == b.toList) = false := he
    clear hl he
    go_enter Tryd.func105, Tryd.ntmps105
    go_wp2_with fail
    all_goals first | (exfalso; simp_all; done) | (go_ret; exact ⟨rfl, rfl⟩)
end Go.Proofs.YtogjcaakfnfapaaDoor
namespace Go.Proofs.YtogjcaakfnfapaaDoor
open Go.RowKit
set_option linter.unusedVariables false
set_option linter.unusedSimpArgs false
set_option maxRecDepth 100000

/-- A world with draws and new blocks: nothing else. -/
def Grew (w w' : World) : Prop := ∃ q os, w' = Sort.grow (w.drewN q) os
theorem Grew.refl (w : World) : Grew w w := ⟨0, #[], by rw [Sort.grow_empty]; rfl⟩
theorem Grew.alloc {w w' : World} (h : Grew w w') (o : Obj) : Grew w (w'.alloc o) := by
  obtain ⟨q, os, rfl⟩ := h
  exact ⟨q, os ++ #[o], by rw [Sort.alloc_eq_grow, Sort.grow_grow]⟩
theorem Grew.drewN {w w' : World} (h : Grew w w') (n : Nat) : Grew w (w'.drewN n) := by
  obtain ⟨q, os, rfl⟩ := h
  exact ⟨q + n, os, by rw [← World.drewN_drewN]; rfl⟩
theorem Grew.trans {a b c : World} (h : Grew a b) (k : Grew b c) : Grew a c := by
  obtain ⟨q, os, rfl⟩ := h
  obtain ⟨n, os', rfl⟩ := k
  exact ⟨q + n, os ++ os', by rw [← World.drewN_drewN, ← Sort.grow_grow]; rfl⟩
theorem Grew.below {w w' : World} (h : Grew w w') : Below w.heap.size w w' := by
  obtain ⟨q, os, rfl⟩ := h
  refine ⟨rfl, rfl, rfl, ?_, fun b hb => ?_⟩
  · show w.heap.size ≤ (w.heap ++ os).size
    rw [Array.size_append]; omega
  · show (w.heap ++ os)[b]? = w.heap[b]?
    rw [Array.getElem?_append_left hb]

/-- Of two labels. -/
def cmpP (x y : Lb) : Int := if cmpS x.1 y.1 = 0 then cmpS x.2 y.2 else cmpS x.1 y.1
/-- Of two lists. -/
def cmpL : List Lb → List Lb → Int
  | [], [] => 0
  | [], _ :: _ => -1
  | _ :: _, [] => 1
  | a :: r, b :: t => if cmpP a b = 0 then cmpL r t else cmpP a b
theorem order_qs (a b : ByteArray) (w : World) : Calls Tryd.prog 105 #[.string a, .string b] w fun e w' => e = .returned (.int .i64 (cmpS a b)) ∧ w = w' := (order_any a b w).mono fun _ _ h => ⟨h.1, h.2.symm⟩
theorem cmpS_ne (a b : ByteArray) : (!(a.toList == b.toList)) = decide (cmpS a b ≠ 0) := by
  rw [ByteArray.toList_eq, ByteArray.toList_eq, Bool.eq_iff_iff]
  simp [cmpS, cb_eq]
theorem cmp1_any (x y : Lb) (w : World) : Calls Tryd.prog 115 #[.agg (lenc x).toArray, .agg (lenc y).toArray] w fun e w' => e = .returned (.int .i64 (cmpP x y)) ∧ Grew w w' := by
  obtain ⟨a, b⟩ := x
  obtain ⟨c, d⟩ := y
  show Calls Tryd.prog 115 #[.agg #[.string a, .string b], .agg #[.string c, .string d]] w _
  have h1 : (!(a.toList == c.toList)) = decide (cmpS a c ≠ 0) := cmpS_ne a c
  by_cases h : cmpS a c = 0
  · have h2 : (!(a.toList == c.toList)) = false := by rw [h1]; simp [h]
    have h3 : (a.toList == c.toList) = true := by simpa using h2
    rw [show cmpP (a, b) (c, d) = cmpS b d by simp [cmpP, h]]
    clear h1
    go_enter Tryd.func115, Tryd.ntmps115
    go_wp2_with fail
    refine (Tryd.strings_Compare _ _ _).mono ?_
    rintro e w1 ⟨rfl, rfl⟩
    go_wp2_with fail
    go_ret
    exact ⟨rfl, ((Grew.refl _).alloc _).alloc _⟩
  · have h2 : (!(a.toList == c.toList)) = true := by rw [h1]; simp [h]
    have h3 : (a.toList == c.toList) = false := by simpa using h2
    rw [show cmpP (a, b) (c, d) = cmpS a c by simp [cmpP, h]]
    clear h1
    go_enter Tryd.func115, Tryd.ntmps115
    go_wp2_with fail
    refine (Tryd.strings_Compare _ _ _).mono ?_
    rintro e w1 ⟨rfl, rfl⟩
    go_wp2_with fail
    go_ret
    exact ⟨rfl, ((Grew.refl _).alloc _).alloc _⟩
set_option maxHeartbeats 2000000 in
/-- The document's. -/
theorem rcompare_any (v1 v2 : Value) (xs ys : List Lb) (w : World) (h1 : Sl lenc w v1 xs) (h2 : Sl lenc w v2 ys) :
    Calls Tryd.prog 60 #[v1, v2] w fun e w' => e = .returned (.int .i64 (cmpL xs ys)) ∧ ∃ n, w' = w.drewN n := by
  obtain ⟨a, cap, rfl, hlen, -, hc⟩ := h1.split lenc_len
  obtain ⟨a2, cap2, rfl, hlen2, -, hc2⟩ := h2.split lenc_len
  have HC := Lib.hid hc
  have HC2 := Lib.hid hc2
  clear hc hc2 h1 h2
  go_enter Tryd.func60, Tryd.ntmps60
  go_wp2_with fail
  go_loopw [5] (fun i wr => ∃ k : Nat, k ≤ xs.length ∧ k ≤ ys.length ∧ i = .int .i64 k ∧ Hid (cmpL (xs.drop k) (ys.drop k) = cmpL xs ys) ∧ ∃ n, wr = w.drewN n) (fun i _ => xs.length - (intOf i).toNat)
  case atStart => exact ⟨0, Nat.zero_le _, Nat.zero_le _, rfl, rfl, 0, rfl⟩
  case round =>
    obtain ⟨k, hk, hk2, rfl, HV, n, rfl⟩ := hrel
    by_cases hlt : k < xs.length
    · have hltz : (k : Int) < (xs.length : Int) := by omega
      by_cases hlt2 : k < ys.length
      · have hltz2 : (k : Int) < (ys.length : Int) := by omega
        have h00 : (0 : Int) ≤ (k : Int) := by omega
        obtain ⟨b, off, rfl, hk0, hk1⟩ := lab_cells HC.out (Below.refl _ _) (Nat.le_refl _) hlt
        obtain ⟨b2, off2, rfl, hj0, hj1⟩ := lab_cells HC2.out (Below.refl _ _) (Nat.le_refl _) hlt2
        have HD := Lib.hid (show xs.drop k = lx xs k :: xs.drop (k + 1) by rw [List.drop_eq_getElem_cons hlt]; simp [lx, hlt])
        have HD2 := Lib.hid (show ys.drop k = lx ys k :: ys.drop (k + 1) by rw [List.drop_eq_getElem_cons hlt2]; simp [lx, hlt2])
        go_wp2_with fail
        go_quiet ((go_at_call 105; first | refine qs (order_qs _ _ _) | refine quiet_same (order_qs _ _ _)))
        obtain ⟨p, hp⟩ : ∃ p, p = cmpS (lx xs k).1 (lx ys k).1 := ⟨_, rfl⟩
        rw [← hp]
        by_cases h0 : p = 0
        · have h0b : (p == 0) = true := by simpa using h0
          go_wp2_with fail
          go_quiet ((go_at_call 105; first | refine qs (order_qs _ _ _) | refine quiet_same (order_qs _ _ _)))
          obtain ⟨q, hq⟩ : ∃ q, q = cmpS (lx xs k).2 (lx ys k).2 := ⟨_, rfl⟩
          rw [← hq]
          have hpp : cmpP (lx xs k) (lx ys k) = q := by rw [cmpP, ← hp, if_pos h0, hq]
          have HPP := Lib.hid hpp
          clear hpp hp hq
          by_cases h1 : q = 0
          · have h1b : (q == 0) = true := by simpa using h1
            go_wp2_with fail
            go_roundw
            case rel => exact ⟨k + 1, by omega, by omega, by go_num, by show _ = _; rw [← HV.out, HD.out, HD2.out, cmpL, HPP.out, if_pos h1], _, by first | rfl | (simp only [World.drewN_drewN])⟩
            case measure => simp [intOf]; omega
          · have h1b : (q == 0) = false := by simpa using h1
            go_wp2_with fail
            go_ret
            exact ⟨by rw [← HV.out, HD.out, HD2.out, cmpL, HPP.out, if_neg h1] <;> rfl, _, by first | rfl | (simp only [World.drewN_drewN])⟩
        · have h0b : (p == 0) = false := by simpa using h0
          have hpp : cmpP (lx xs k) (lx ys k) = p := by rw [cmpP, ← hp, if_neg h0]
          have HPP := Lib.hid hpp
          clear hpp hp
          go_wp2_with fail
          go_ret
          exact ⟨by rw [← HV.out, HD.out, HD2.out, cmpL, HPP.out, if_neg h0] <;> rfl, _, by first | rfl | (simp only [World.drewN_drewN])⟩
      · have hltz2 : ¬ (k : Int) < (ys.length : Int) := by omega
        have e2 : ys.drop k = [] := List.drop_eq_nil_of_le (by omega)
        have e1 : xs.drop k = lx xs k :: xs.drop (k + 1) := by rw [List.drop_eq_getElem_cons hlt]; simp [lx, hlt]
        have hz1 : ¬ (xs.length : Int) < (ys.length : Int) := by omega
        have hz2 : (ys.length : Int) < (xs.length : Int) := by omega
        have HE := Lib.hid (show cmpL xs ys = 1 by rw [← HV.out, e1, e2]; rfl)
        clear e1 e2
        go_wp2_with fail
        go_ret
        exact ⟨by rw [HE.out] <;> rfl, _, rfl⟩
    · have hltz : ¬ (k : Int) < (xs.length : Int) := by omega
      have e1 : xs.drop k = [] := List.drop_eq_nil_of_le (by omega)
      by_cases hlt2 : k < ys.length
      · have e2 : ys.drop k = lx ys k :: ys.drop (k + 1) := by rw [List.drop_eq_getElem_cons hlt2]; simp [lx, hlt2]
        have hz1 : (xs.length : Int) < (ys.length : Int) := by omega
        have HE := Lib.hid (show cmpL xs ys = -1 by rw [← HV.out, e1, e2]; rfl)
        clear e1 e2
        go_wp2_with fail
        go_ret
        exact ⟨by rw [HE.out] <;> rfl, _, rfl⟩
      · have e2 : ys.drop k = [] := List.drop_eq_nil_of_le (by omega)
        have hz1 : ¬ (xs.length : Int) < (ys.length : Int) := by omega
        have hz2 : ¬ (ys.length : Int) < (xs.length : Int) := by omega
        have HE := Lib.hid (show cmpL xs ys = 0 by rw [← HV.out, e1, e2]; rfl)
        clear e1 e2
        go_wp2_with fail
        go_ret
        exact ⟨by rw [HE.out] <;> rfl, _, rfl⟩
end Go.Proofs.YtogjcaakfnfapaaDoor
namespace Go.Proofs.YtogjcaakfnfapaaDoor
open Go.RowKit
set_option linter.unusedVariables false
set_option linter.unusedSimpArgs false
set_option maxRecDepth 100000
set_option maxHeartbeats 2000000 in
theorem cmpfn_any (v1 v2 : Value) (xs ys : List Lb) (w : World) (h1 : Sl lenc w v1 xs) (h2 : Sl lenc w v2 ys) :
    Calls Tryd.prog 114 #[v1, v2, .func (.func 115) #[] #[]] w fun e w' => e = .returned (.int .i64 (cmpL xs ys)) ∧ Grew w w' := by
  obtain ⟨a, cap, rfl, hlen, -, hc⟩ := h1.split lenc_len
  obtain ⟨a2, cap2, rfl, hlen2, -, hc2⟩ := h2.split lenc_len
  have HC := Lib.hid hc
  have HC2 := Lib.hid hc2
  clear hc hc2 h1 h2
  go_enter Tryd.func114, Tryd.ntmps114
  go_wp2_with fail
  go_loopw [13] (fun i wr => ∃ k : Nat, k ≤ xs.length ∧ k ≤ ys.length ∧ i = .int .i64 k ∧ Hid (cmpL (xs.drop k) (ys.drop k) = cmpL xs ys) ∧ Hid (Grew w wr)) (fun i _ => xs.length - (intOf i).toNat)
  case atStart => exact ⟨0, Nat.zero_le _, Nat.zero_le _, rfl, rfl, Grew.refl _⟩
  case round =>
    obtain ⟨k, hk, hk2, rfl, HV, HG⟩ := hrel
    by_cases hlt : k < xs.length
    · have hltz : (k : Int) < (xs.length : Int) := by omega
      have h00 : (0 : Int) ≤ (k : Int) := by omega
      obtain ⟨b, off, rfl, hk0, hk1⟩ := lab_cells HC.out HG.out.below (Nat.le_refl _) hlt
      by_cases hlt2 : k < ys.length
      · have hltz2 : (k : Int) < (ys.length : Int) := by omega
        have hltz3 : ¬ (ys.length : Int) ≤ (k : Int) := by omega
        obtain ⟨b2, off2, rfl, hj0, hj1⟩ := lab_cells HC2.out HG.out.below (Nat.le_refl _) hlt2
        have HD := Lib.hid (show xs.drop k = lx xs k :: xs.drop (k + 1) by rw [List.drop_eq_getElem_cons hlt]; simp [lx, hlt])
        have HD2 := Lib.hid (show ys.drop k = lx ys k :: ys.drop (k + 1) by rw [List.drop_eq_getElem_cons hlt2]; simp [lx, hlt2])
        have hne : b2 ≠ wr.heap.size := by
          have := World.block_lt_of_cell? wr _ hj0
          have h2 : b2 < wr.heap.size := this
          omega
        have hlt3 : b2 < wr.heap.size := World.block_lt_of_cell? wr _ hj0
        go_wp2_with fail
        refine (cmp1_any (lx xs k) (lx ys k) _).mono ?_
        rintro e w1 ⟨rfl, hg⟩
        have HG1 : Hid (Grew w w1) := ((HG.out.alloc _).alloc _).trans hg
        clear hg
        obtain ⟨p, hp⟩ : ∃ p, p = cmpP (lx xs k) (lx ys k) := ⟨_, rfl⟩
        rw [← hp]
        have HPP := Lib.hid hp
        clear hp
        by_cases h0 : p = 0
        · have h0b : (p == 0) = true := by simpa using h0
          go_wp2_with fail
          go_roundw
          case rel => exact ⟨k + 1, by omega, by omega, by go_num, by show _ = _; rw [← HV.out, HD.out, HD2.out, cmpL, ← HPP.out, if_pos h0], HG1⟩
          case measure => simp [intOf]; omega
        · have h0b : (p == 0) = false := by simpa using h0
          go_wp2_with fail
          go_ret
          exact ⟨by rw [← HV.out, HD.out, HD2.out, cmpL, ← HPP.out, if_neg h0] <;> rfl, HG1.out⟩
      · have hltz2 : (ys.length : Int) ≤ (k : Int) := by omega
        have e2 : ys.drop k = [] := List.drop_eq_nil_of_le (by omega)
        have e1 : xs.drop k = lx xs k :: xs.drop (k + 1) := by rw [List.drop_eq_getElem_cons hlt]; simp [lx, hlt]
        have HE := Lib.hid (show cmpL xs ys = 1 by rw [← HV.out, e1, e2]; rfl)
        clear e1 e2
        go_wp2_with fail
        go_ret
        exact ⟨by rw [HE.out] <;> rfl, by first | exact HG.out.alloc _ | exact HG.out⟩
    · have hltz : ¬ (k : Int) < (xs.length : Int) := by omega
      have e1 : xs.drop k = [] := List.drop_eq_nil_of_le (by omega)
      by_cases hlt2 : k < ys.length
      · have e2 : ys.drop k = lx ys k :: ys.drop (k + 1) := by rw [List.drop_eq_getElem_cons hlt2]; simp [lx, hlt2]
        have hz1 : (xs.length : Int) < (ys.length : Int) := by omega
        have HE := Lib.hid (show cmpL xs ys = -1 by rw [← HV.out, e1, e2]; rfl)
        clear e1 e2
        go_wp2_with fail
        go_ret
        exact ⟨by rw [HE.out] <;> rfl, HG.out⟩
      · have e2 : ys.drop k = [] := List.drop_eq_nil_of_le (by omega)
        have hz1 : ¬ (xs.length : Int) < (ys.length : Int) := by omega
        have HE := Lib.hid (show cmpL xs ys = 0 by rw [← HV.out, e1, e2]; rfl)
        clear e1 e2
        go_wp2_with fail
        go_ret
        exact ⟨by rw [HE.out] <;> rfl, HG.out⟩
theorem compare_any (v1 v2 : Value) (xs ys : List Lb) (w : World) (h1 : Sl lenc w v1 xs) (h2 : Sl lenc w v2 ys) :
    Calls Tryd.prog 82 #[v1, v2] w fun e w' => e = .returned (.int .i64 (cmpL xs ys)) ∧ Grew w w' := by
  have HF := Lib.hid (cmpfn_any v1 v2 xs ys w h1 h2)
  clear h1 h2
  go_enter Tryd.func82, Tryd.ntmps82
  go_wp2_with fail
  refine HF.out.mono ?_
  rintro e w1 ⟨rfl, hg⟩
  go_wp2_with fail
  go_ret
  exact ⟨rfl, hg⟩
/-- Are two lists the same? -/
theorem rsame_any (v1 v2 : Value) (xs ys : List Lb) (w : World) (h1 : Sl lenc w v1 xs) (h2 : Sl lenc w v2 ys) :
    Calls Tryd.prog 18 #[v1, v2] w fun e w' => e = .returned (.bool (cmpL xs ys == 0)) ∧ ∃ n, w' = w.drewN n := by
  have HF := Lib.hid (rcompare_any v1 v2 xs ys w h1 h2)
  clear h1 h2
  go_enter Tryd.func18, Tryd.ntmps18
  go_wp2_with fail
  refine HF.out.mono ?_
  rintro e w1 ⟨rfl, n, rfl⟩
  go_wp2_with fail
  all_goals go_ret
  all_goals exact ⟨by first | rfl | simp_all, n, rfl⟩

/-! The order in plain words. -/
theorem cmpS_neg (a b : ByteArray) : cmpS b a = - cmpS a b := cb_neg _ _
theorem ba_eq {a b : ByteArray} (h : a.data.toList = b.data.toList) : a = b := by
  cases a; cases b
  simp only [Array.toList_inj] at h
  subst h; rfl
theorem cmpS_eq (a b : ByteArray) : cmpS a b = 0 ↔ a = b := by
  unfold cmpS
  rw [cb_eq]
  exact ⟨ba_eq, fun h => by rw [h]⟩
theorem cmpS_trans {a b c : ByteArray} (h1 : cmpS a b ≤ 0) (h2 : cmpS b c ≤ 0) : cmpS a c ≤ 0 ∧ (cmpS a b < 0 ∨ cmpS b c < 0 → cmpS a c < 0) := cb_trans _ _ _ h1 h2
theorem cmpP_neg (x y : Lb) : cmpP y x = - cmpP x y := by
  unfold cmpP
  rw [cmpS_neg x.1 y.1, cmpS_neg x.2 y.2]
  by_cases h : cmpS x.1 y.1 = 0
  · rw [if_pos h, if_pos (by omega)]
  · rw [if_neg h, if_neg (by omega)]
theorem cmpP_eq (x y : Lb) : cmpP x y = 0 ↔ x = y := by
  unfold cmpP
  by_cases h : cmpS x.1 y.1 = 0
  · rw [if_pos h, cmpS_eq]
    have := (cmpS_eq _ _).1 h
    exact ⟨fun h2 => Prod.ext this h2, fun h2 => by rw [h2]⟩
  · rw [if_neg h]
    exact ⟨fun h2 => absurd h2 h, fun h2 => absurd ((cmpS_eq _ _).2 (by rw [h2])) h⟩
theorem cmpP_trans {x y z : Lb} (h1 : cmpP x y ≤ 0) (h2 : cmpP y z ≤ 0) : cmpP x z ≤ 0 ∧ (cmpP x y < 0 ∨ cmpP y z < 0 → cmpP x z < 0) := by
  unfold cmpP at *
  by_cases a : cmpS x.1 y.1 = 0
  · by_cases b : cmpS y.1 z.1 = 0
    · have e1 := (cmpS_eq _ _).1 a
      have e2 := (cmpS_eq _ _).1 b
      rw [if_pos a] at h1 ⊢
      rw [if_pos b] at h2 ⊢
      rw [if_pos (by rw [e1]; exact b)]
      exact cmpS_trans h1 h2
    · have e1 := (cmpS_eq _ _).1 a
      rw [if_neg b] at h2 ⊢
      rw [e1, if_neg b]
      exact ⟨h2, fun _ => by omega⟩
  · rw [if_neg a] at h1 ⊢
    by_cases b : cmpS y.1 z.1 = 0
    · have e2 := (cmpS_eq _ _).1 b
      rw [← e2, if_neg a]
      exact ⟨h1, fun _ => by omega⟩
    · rw [if_neg b] at h2 ⊢
      have := (cmpS_trans h1 h2).2 (.inl (by omega))
      rw [if_neg (by omega)]
      exact ⟨by omega, fun _ => this⟩
theorem cmpL_neg : ∀ x y : List Lb, cmpL y x = - cmpL x y := by
  intro x
  induction x with
  | nil => intro y; cases y <;> simp [cmpL]
  | cons a x ih =>
    intro y
    cases y with
    | nil => simp [cmpL]
    | cons b y =>
      simp only [cmpL]
      rw [cmpP_neg a b]
      by_cases h : cmpP a b = 0
      · rw [if_pos h, if_pos (by omega)]; exact ih y
      · rw [if_neg h, if_neg (by omega)]
theorem cmpL_eq : ∀ x y : List Lb, cmpL x y = 0 ↔ x = y := by
  intro x
  induction x with
  | nil => intro y; cases y <;> simp [cmpL]
  | cons a x ih =>
    intro y
    cases y with
    | nil => simp [cmpL]
    | cons b y =>
      simp only [cmpL]
      by_cases h : cmpP a b = 0
      · rw [if_pos h, ih, (cmpP_eq _ _).1 h]; simp
      · rw [if_neg h]
        exact ⟨fun h2 => absurd h2 h, fun h2 => by injection h2 with h3; exact absurd ((cmpP_eq _ _).2 h3) h⟩
theorem cmpL_trans : ∀ x y z : List Lb, cmpL x y ≤ 0 → cmpL y z ≤ 0 → cmpL x z ≤ 0 ∧ (cmpL x y < 0 ∨ cmpL y z < 0 → cmpL x z < 0) := by
  intro x
  induction x with
  | nil => intro y z; cases y <;> cases z <;> simp [cmpL]
  | cons a x ih =>
    intro y z
    cases y with
    | nil => simp [cmpL]
    | cons b y =>
      cases z with
      | nil => intro h1 h2; simp [cmpL] at h2
      | cons c z =>
        simp only [cmpL]
        by_cases h1 : cmpP a b = 0
        · have e1 := (cmpP_eq _ _).1 h1
          subst e1
          rw [if_pos h1]
          by_cases h2 : cmpP a c = 0
          · simp only [if_pos h2]; exact ih y z
          · simp only [if_neg h2]; intro _ h; exact ⟨h, fun _ => by omega⟩
        · rw [if_neg h1]
          by_cases h2 : cmpP b c = 0
          · have e2 := (cmpP_eq _ _).1 h2
            subst e2
            simp only [if_neg h1, if_pos h2]
            intro h _; exact ⟨h, fun _ => by omega⟩
          · rw [if_neg h2]
            intro h3 h4
            have := (cmpP_trans h3 h4).2 (.inl (by omega))
            rw [if_neg (by omega)]
            exact ⟨by omega, fun _ => this⟩
end Go.Proofs.YtogjcaakfnfapaaDoor
