/- The library's stable sort at elements of k cells: symMerge, whole. -/
import Derived.Test.YtkflhfdpdgnbfaaSmP
namespace Go.Proofs.Ytkflhfdpdgnbfaa
open Go.Shelf Go.RowKit Go.Lib Go.Sort
set_option linter.unusedVariables false
set_option linter.unusedSimpArgs false
set_option maxRecDepth 100000

section
variable {α : Type} [Inhabited α] {enc : α → List Value}
def SrchC (enc : α → List Value) (k : Nat) (w0 : World) (blk off : Nat) (lt : α → α → Bool) (lo hi n : Nat) (d : Array α) (iv jv : Value) (wr : World) : Prop := ∃ i j : Nat, iv = .int .i64 i ∧ jv = .int .i64 j ∧ lo ≤ i ∧ i ≤ j ∧ j ≤ hi ∧ (i = lo ∨ lt d[n - i]! d[i - 1]! = false) ∧ (j = hi ∨ lt d[n - 1 - j]! d[j]! = true) ∧ SWK enc k w0 blk off d wr
/-- The bounds of the merge's search. -/
def Bnds (a m b mid lo hi : Nat) : Prop := a ≤ lo ∧ lo ≤ hi ∧ hi ≤ m ∧ hi ≤ mid ∧ mid + m ≤ b + lo ∧ (lo = a ∨ lo + b = mid + m) ∧ (hi = m ∨ hi = mid)

set_option maxHeartbeats 16000000 in
theorem mergeC_P (k : Nat) (zE : ∀ w, (Go.sizeOf 35).run Try.prog w = .ok k w) (g : Nat) (cb : Array Value) (eg : ∀ args w, (callFunc g args).run Try.prog w = .ok (.enter g args) w) (cf : α → α → Int) (blk off cap a m b : Nat) (d0 d : Array α) (w0 w : World)
    (R : RowK enc k w0 blk off d0) (hs : d0.size = d.size) (S : SWK enc k w0 blk off d w) (hC : CmpLays Try.prog g cb enc k cf blk off d0.size w0) (hS : SWO (ltOf cf)) (ham : a + 1 < m) (hmb : m + 1 < b) (hb : b ≤ d.size) (hsz : d.size < 4611686018427387904) (h1 : SortedIn (ltOf cf) a m d) (h2 : SortedIn (ltOf cf) m b d)
    (hrec : ∀ (a' m' b' : Nat) (d' : Array α) (w' : World), b' - a' < b - a → d'.size = d.size → SWK enc k w0 blk off d' w' → a' < m' → m' < b' → b' ≤ d.size → SortedIn (ltOf cf) a' m' d' → SortedIn (ltOf cf) m' b' d' →
      Calls Try.prog 78 #[.slice (some ⟨blk, off, none⟩) d.size cap, .int .i64 a', .int .i64 m', .int .i64 b', .func (.func g) #[] cb] w' fun e w2 => e = .returned (.tuple #[]) ∧ Merged enc k w0 blk off (ltOf cf) a' b' d' w2) :
    Calls Try.prog 78 #[.slice (some ⟨blk, off, none⟩) d.size cap, .int .i64 a, .int .i64 m, .int .i64 b, .func (.func g) #[] cb] w fun e w' => e = .returned (.tuple #[]) ∧ Merged enc k w0 blk off (ltOf cf) a b d w' := by
  have S0 : Aside (SWK enc k w0 blk off d w) := S
  have mixed : Try.prog.follows .mixedOrders = true := by kernel_rfl
  have HC := Lib.hid hC
  have HSW := Lib.hid hS
  have HS := Lib.hid hs
  have H1 := Lib.hid h1
  have H2 := Lib.hid h2
  have HREC := Lib.hid hrec
  have t1 : ((m : Int) - (a : Int) == 1) = false := by simp; omega
  have t2 : ((b : Int) - (m : Int) == 1) = false := by simp; omega
  have t3 : (m : Int) - (a : Int) ≠ 1 := by omega
  have t4 : (b : Int) - (m : Int) ≠ 1 := by omega
  obtain ⟨mid, hmid⟩ : ∃ mid : Nat, (mid : Int) = ((a : Int) + (b : Int)) / 2 := ⟨(a + b) / 2, by omega⟩
  have hm1 : 2 * mid ≤ a + b := by omega
  have hm2 : a + b ≤ 2 * mid + 1 := by omega
  have HMID := Lib.hid hmid
  clear S hC hS hs h1 h2 hrec hmid
  go_enter Try.func78, Try.ntmps78
  by_cases hc : mid < m
  case' pos =>
    have hcz : ((a : Int) + (b : Int)) / 2 < (m : Int) := by have := HMID.out; omega
    have hcb : decide (((a : Int) + (b : Int)) / 2 < (m : Int)) = true := by simpa using hcz
    go_wp2_with fail
    rw [← HMID.out]
    obtain ⟨lo, elo⟩ : ∃ lo : Nat, lo = mid + m - b := ⟨_, rfl⟩
    obtain ⟨hi, ehi⟩ : ∃ hi : Nat, hi = mid := ⟨_, rfl⟩
    have HB : Hid (Bnds a m b mid lo hi) := by show Bnds _ _ _ _ _ _; unfold Bnds; omega
    have HLE : Hid ((lo : Int) = (mid : Int) + (m : Int) - (b : Int)) := by show _ = _; omega
    have HHE : Hid ((hi : Int) = (mid : Int)) := by show _ = _; omega
    clear elo ehi
  case' neg =>
    have hcz : ¬ ((a : Int) + (b : Int)) / 2 < (m : Int) := by have := HMID.out; omega
    have hcb : decide (((a : Int) + (b : Int)) / 2 < (m : Int)) = false := by simp only [decide_eq_false_iff_not]; exact hcz
    go_wp2_with fail
    rw [← HMID.out]
    obtain ⟨lo, elo⟩ : ∃ lo : Nat, lo = a := ⟨_, rfl⟩
    obtain ⟨hi, ehi⟩ : ∃ hi : Nat, hi = m := ⟨_, rfl⟩
    have HB : Hid (Bnds a m b mid lo hi) := by show Bnds _ _ _ _ _ _; unfold Bnds; omega
    have HLE : Hid ((lo : Int) = (a : Int)) := by show _ = _; omega
    have HHE : Hid ((hi : Int) = (m : Int)) := by show _ = _; omega
    clear elo ehi
  all_goals go_loopw [20, 21] (fun iv jv wr => SrchC enc k w0 blk off (ltOf cf) lo hi (mid + m) d iv jv wr) (fun iv jv _ => (intOf jv).toNat - (intOf iv).toNat)
  case atStart => exact ⟨lo, hi, by congr 1; exact HLE.out.symm, by congr 1; exact HHE.out.symm, Nat.le_refl _, HB.out.2.1, Nat.le_refl _, .inl rfl, .inl rfl, S0.out⟩
  case atStart => exact ⟨lo, hi, by congr 1; exact HLE.out.symm, by congr 1; exact HHE.out.symm, Nat.le_refl _, HB.out.2.1, Nat.le_refl _, .inl rfl, .inl rfl, S0.out⟩
  all_goals
    clear S0
    obtain ⟨i, j, rfl, rfl, hai, hij, hjm, hlo, hhi, hSr⟩ := hrel
    have S1 := Lib.hid hSr
    have HLO := Lib.hid hlo
    have HHI := Lib.hid hhi
    obtain ⟨b1, b2, b3, b4, b5, b6, b7⟩ := HB.out
    have B6 := Lib.hid b6
    have B7 := Lib.hid b7
    clear hSr hlo hhi b6 b7
  all_goals by_cases hlt : i < j
  case pos =>
      have hltz : (i : Int) < (j : Int) := by omega
      have p0 : (0 : Int) ≤ ((i : Int) + (j : Int)) / 2 := by omega
      have p1 : ((i : Int) + (j : Int)) / 2 < (d.size : Int) := by omega
      have p2 : (((i : Int) + (j : Int)) / 2).toNat = (i + j) / 2 := by omega
      have p3 : (0 : Int) ≤ (mid : Int) + (m : Int) - 1 - ((i : Int) + (j : Int)) / 2 := by omega
      have p7 : ((i : Int) + (j : Int)) / 2 ≤ (mid : Int) + (m : Int) - 1 := by omega
      have p4 : (mid : Int) + (m : Int) - 1 - ((i : Int) + (j : Int)) / 2 < (d.size : Int) := by omega
      have p5 : ((mid : Int) + (m : Int) - 1 - ((i : Int) + (j : Int)) / 2).toNat = mid + m - 1 - (i + j) / 2 := by omega
      have p6 : IntKind.i64.wrap ((mid : Int) + (m : Int) - 1 - ((i : Int) + (j : Int)) / 2) = (mid : Int) + (m : Int) - 1 - ((i : Int) + (j : Int)) / 2 := by rw [IntKind.wrap_i64]; omega
      obtain ⟨xc, hxc⟩ : ∃ x, d[(i + j) / 2]! = x := ⟨_, rfl⟩
      obtain ⟨xp, hxp⟩ : ∃ x, d[mid + m - 1 - (i + j) / 2]! = x := ⟨_, rfl⟩
      have lj := fun n' os' => S1.out.ld R HS.out.symm Try.prog ((i + j) / 2) (by omega) n' os'
      have lp := fun n' os' => S1.out.ld R HS.out.symm Try.prog (mid + m - 1 - (i + j) / 2) (by omega) n' os'
      rw [hxc] at lj
      rw [hxp] at lp
      have hcg := fun n' os' => S1.out.cmp HC.out HS.out.symm xp xc n' os'
      have HXC := Lib.hid hxc
      have HXP := Lib.hid hxp
      clear hxc hxp
      by_cases hlv : cf xp xc < 0
      · have hb1 : decide (cf xp xc < 0) = true := by simpa using hlv
        go_wp2_with fail
        go_quiet_grown (first | (go_at_fn g; refine Calls.grown_of (hcg _ _)))
        go_wp2_with fail
        go_roundw
        case rel => exact ⟨i, (i + j) / 2, rfl, by congr 1, hai, by omega, by omega, HLO.out, .inr (by rw [HXC.out, HXP.out]; simpa [ltOf] using hlv), S1.out.grown nq osq⟩
        case measure => simp [intOf]; omega
      · have hlv2 : 0 ≤ cf xp xc := by omega
        have hb1 : decide (cf xp xc < 0) = false := by simp; omega
        clear hlv
        go_wp2_with fail
        go_quiet_grown (first | (go_at_fn g; refine Calls.grown_of (hcg _ _)))
        go_wp2_with fail
        go_roundw
        case rel => exact ⟨(i + j) / 2 + 1, j, by congr 1, rfl, by omega, by omega, hjm, .inr (by rw [show (i + j) / 2 + 1 - 1 = (i + j) / 2 by omega, show mid + m - ((i + j) / 2 + 1) = mid + m - 1 - (i + j) / 2 by omega, HXC.out, HXP.out]; simp [ltOf]; omega), HHI.out, S1.out.grown nq osq⟩
        case measure => simp [intOf]; omega
  case pos =>
      have hltz : (i : Int) < (j : Int) := by omega
      have p0 : (0 : Int) ≤ ((i : Int) + (j : Int)) / 2 := by omega
      have p1 : ((i : Int) + (j : Int)) / 2 < (d.size : Int) := by omega
      have p2 : (((i : Int) + (j : Int)) / 2).toNat = (i + j) / 2 := by omega
      have p3 : (0 : Int) ≤ (mid : Int) + (m : Int) - 1 - ((i : Int) + (j : Int)) / 2 := by omega
      have p7 : ((i : Int) + (j : Int)) / 2 ≤ (mid : Int) + (m : Int) - 1 := by omega
      have p4 : (mid : Int) + (m : Int) - 1 - ((i : Int) + (j : Int)) / 2 < (d.size : Int) := by omega
      have p5 : ((mid : Int) + (m : Int) - 1 - ((i : Int) + (j : Int)) / 2).toNat = mid + m - 1 - (i + j) / 2 := by omega
      have p6 : IntKind.i64.wrap ((mid : Int) + (m : Int) - 1 - ((i : Int) + (j : Int)) / 2) = (mid : Int) + (m : Int) - 1 - ((i : Int) + (j : Int)) / 2 := by rw [IntKind.wrap_i64]; omega
      obtain ⟨xc, hxc⟩ : ∃ x, d[(i + j) / 2]! = x := ⟨_, rfl⟩
      obtain ⟨xp, hxp⟩ : ∃ x, d[mid + m - 1 - (i + j) / 2]! = x := ⟨_, rfl⟩
      have lj := fun n' os' => S1.out.ld R HS.out.symm Try.prog ((i + j) / 2) (by omega) n' os'
      have lp := fun n' os' => S1.out.ld R HS.out.symm Try.prog (mid + m - 1 - (i + j) / 2) (by omega) n' os'
      rw [hxc] at lj
      rw [hxp] at lp
      have hcg := fun n' os' => S1.out.cmp HC.out HS.out.symm xp xc n' os'
      have HXC := Lib.hid hxc
      have HXP := Lib.hid hxp
      clear hxc hxp
      by_cases hlv : cf xp xc < 0
      · have hb1 : decide (cf xp xc < 0) = true := by simpa using hlv
        go_wp2_with fail
        go_quiet_grown (first | (go_at_fn g; refine Calls.grown_of (hcg _ _)))
        go_wp2_with fail
        go_roundw
        case rel => exact ⟨i, (i + j) / 2, rfl, by congr 1, hai, by omega, by omega, HLO.out, .inr (by rw [HXC.out, HXP.out]; simpa [ltOf] using hlv), S1.out.grown nq osq⟩
        case measure => simp [intOf]; omega
      · have hlv2 : 0 ≤ cf xp xc := by omega
        have hb1 : decide (cf xp xc < 0) = false := by simp; omega
        clear hlv
        go_wp2_with fail
        go_quiet_grown (first | (go_at_fn g; refine Calls.grown_of (hcg _ _)))
        go_wp2_with fail
        go_roundw
        case rel => exact ⟨(i + j) / 2 + 1, j, by congr 1, rfl, by omega, by omega, hjm, .inr (by rw [show (i + j) / 2 + 1 - 1 = (i + j) / 2 by omega, show mid + m - ((i + j) / 2 + 1) = mid + m - 1 - (i + j) / 2 by omega, HXC.out, HXP.out]; simp [ltOf]; omega), HHI.out, S1.out.grown nq osq⟩
        case measure => simp [intOf]; omega
  all_goals obtain rfl : i = j := by omega
  all_goals have hltz : ¬ (i : Int) < (i : Int) := by omega
  all_goals clear hlt
  all_goals obtain ⟨e, he⟩ : ∃ e, e = mid + m - i := ⟨_, rfl⟩
  all_goals
    have hE : (e : Int) = (mid : Int) + (m : Int) - (i : Int) := by omega
    have hN : e + i = mid + m := by omega
    have hK1 : i = a ∨ e = b ∨ ltOf cf d[e]! d[i - 1]! = false := by
      rcases HLO.out with h | h
      · rcases B6.out with h2 | h2
        · exact .inl (by omega)
        · exact .inr (.inl (by omega))
      · exact .inr (.inr (by rw [he]; exact h))
    have hK2 : i = m ∨ e = m ∨ ltOf cf d[e - 1]! d[i]! = true := by
      rcases HHI.out with h | h
      · rcases B7.out with h2 | h2
        · exact .inl (by omega)
        · exact .inr (.inl (by omega))
      · exact .inr (.inr (by rw [show e - 1 = mid + m - 1 - i by omega]; exact h))
    have hR : i < m → i < mid → Calls Try.prog 85 #[.slice (some ⟨blk, off, none⟩) d.size cap, .int .i64 i, .int .i64 m, .int .i64 ((mid : Int) + (m : Int) - (i : Int)), .func (.func g) #[] cb] wr fun en w' => en = .returned (.tuple #[]) ∧ Turned enc k w0 blk off i m e d w' := by
      intro hA hB
      have h := rotate_P k zE blk off cap i m e d0 d w0 wr (.func (.func g) #[] cb) R HS.out S1.out hA (by omega) (by omega) hsz
      rw [hE] at h
      exact h
    have HE := Lib.hid hE
    have HN := Lib.hid hN
    have HK1 := Lib.hid hK1
    have HK2 := Lib.hid hK2
    have HROT := Lib.hid hR
    have HIN := Lib.hid (show i ≤ m ∧ i ≤ mid ∧ a ≤ i ∧ e ≤ b ∧ m ≤ e by omega)
    have HHC := Lib.hid hc
    have bi1 : i ≤ m := by omega
    have bi2 : i ≤ mid := by omega
    have bi3 : mid + m - i ≤ b := by omega
    clear he hE hN hK1 hK2 hR HLO HHI HC hij hjm hai b1 b2 b3 b4 b5 B6 B7 hc HLE HHE HB
  all_goals by_cases hA : i < m
  all_goals by_cases hB : i < mid
  all_goals by_cases hC : a < i
  all_goals by_cases hD : e < b
  all_goals
    first | have fA : (i : Int) < (m : Int) := by omega | have fA : ¬ (i : Int) < (m : Int) := by omega
    first | have fB : (m : Int) < (mid : Int) + (m : Int) - (i : Int) := by omega | have fB : ¬ (m : Int) < (mid : Int) + (m : Int) - (i : Int) := by omega
    first | have fC : (a : Int) < (i : Int) := by omega | have fC : ¬ (a : Int) < (i : Int) := by omega
    first | have fE : (i : Int) < (mid : Int) := by omega | have fE : ¬ (i : Int) < (mid : Int) := by omega
    first | have fF : (mid : Int) < (mid : Int) + (m : Int) - (i : Int) := by omega | have fF : ¬ (mid : Int) < (mid : Int) + (m : Int) - (i : Int) := by omega
    first | have fD : (mid : Int) + (m : Int) - (i : Int) < (b : Int) := by have := HE.out; omega | have fD : ¬ (mid : Int) + (m : Int) - (i : Int) < (b : Int) := by have := HE.out; omega
    have HA := Lib.hid hA
    have HB := Lib.hid hB
    have HCC := Lib.hid hC
    have HD := Lib.hid hD
    clear hA hB hC hD
  all_goals go_wp2_with fail
  all_goals try (exfalso; have := HE.out; have := HN.out; have := HIN.out; have := HA.out; have := HB.out; have := HCC.out; have := HD.out; omega)
  all_goals
    first
      | (have hA := HA.out
         have hB := HB.out
         refine (HROT.out hA hB).mono ?_
         rintro e1 w1 ⟨rfl, d1, hSd, hz, hp, hr⟩
         have S2 := Lib.hid hSd
         have HZ := Lib.hid hz
         have HP := Lib.hid hp
         have HR := Lib.hid hr
         clear hSd hz hp hr hA hB S1
         go_wp2_with fail)
      | (obtain ⟨d1, w1, hw1, hSd, hz, hp, hr⟩ : ∃ d1 w1, w1 = wr ∧ SWK enc k w0 blk off d1 w1 ∧ d1.size = d.size ∧ PermIn i e d d1 ∧ ∀ x, d1[x]! = rot i m e d x := by
           have hAB : i = m ∨ e = m := by have := HA.out; have := HB.out; have := HN.out; have := HIN.out; omega
           have hin := HIN.out
           refine ⟨d, wr, rfl, S1.out, rfl, permIn_refl _ _ _, fun x => ?_⟩
           rw [rot]
           repeat' split
           all_goals first | rfl | (congr 1; omega)
         rw [← hw1]
         have S2 := Lib.hid hSd
         have HZ := Lib.hid hz
         have HP := Lib.hid hp
         have HR := Lib.hid hr
         clear hSd hz hp hr S1 hw1)
  all_goals
    obtain ⟨-, -, -, -, q1, q2, q3, q4, qx⟩ := merge_turn HSW.out HIN.out.2.2.1 HIN.out.1 HIN.out.2.2.2.2 HIN.out.2.2.2.1 H1.out H2.out HK1.out HK2.out HR.out
    rw [show i + (e - m) = mid by have := HIN.out; have := HN.out; omega] at q2 q3 qx
    have Q1 := Lib.hid q1
    have Q2 := Lib.hid q2
    have Q3 := Lib.hid q3
    have Q4 := Lib.hid q4
    have QX := Lib.hid qx
    clear q1 q2 q3 q4 qx HROT HR HK1 HK2 H1 H2
    first
      | (have hA := HCC.out
         have hB := HB.out
         have hin := HIN.out
         refine (HREC.out a i mid d1 w1 (by omega) HZ.out S2.out hA hB (by omega) Q1.out Q2.out).mono ?_
         rintro e2 w2 ⟨rfl, d2, hSd, hz, hp, hs⟩
         have S3 := Lib.hid hSd
         have HZ2 := Lib.hid hz
         have HP2 := Lib.hid hp
         have HS2 := Lib.hid hs
         clear hSd hz hp hs hA hB hin S2
         go_wp2_with fail)
      | (obtain ⟨d2, w2, hw2, hSd, hz, hp, hs⟩ : ∃ d2 w2, w2 = w1 ∧ SWK enc k w0 blk off d2 w2 ∧ d2.size = d1.size ∧ PermIn a mid d1 d2 ∧ SortedIn (ltOf cf) a mid d2 := by
           have hin := HIN.out
           refine ⟨d1, w1, rfl, S2.out, rfl, permIn_refl _ _ _, ?_⟩
           by_cases hx : i = a
           · rw [← hx]; exact Q2.out
           · have hy : i = mid := by have := HCC.out; have := HB.out; omega
             rw [← hy]; exact Q1.out
         rw [← hw2]
         have S3 := Lib.hid hSd
         have HZ2 := Lib.hid hz
         have HP2 := Lib.hid hp
         have HS2 := Lib.hid hs
         clear hSd hz hp hs S2 hw2)
  all_goals
    have q3 : SortedIn (ltOf cf) mid e d2 := SortedIn.congr Q3.out fun x hx hx2 => HP2.out.2.1 x (.inr hx)
    have q4 : SortedIn (ltOf cf) e b d2 := SortedIn.congr Q4.out fun x hx hx2 => HP2.out.2.1 x (.inr (by have := HIN.out; have := HN.out; omega))
    have Q3' := Lib.hid q3
    have Q4' := Lib.hid q4
    clear q3 q4
    first
      | (have hA := HA.out
         have hB := HD.out
         have hin := HIN.out
         have hn := HN.out
         have h := HREC.out mid e b d2 w2 (by omega) (by rw [HZ2.out]; exact HZ.out) S3.out (by omega) hB (by omega) Q3'.out Q4'.out
         rw [HE.out] at h
         refine h.mono ?_
         clear h
         rintro e3 w3 ⟨rfl, d3, hSd, hz, hp, hs⟩
         have S4 := Lib.hid hSd
         have HZ3 := Lib.hid hz
         have HP3 := Lib.hid hp
         have HS3 := Lib.hid hs
         clear hSd hz hp hs hA hB hin hn S3
         go_wp2_with fail)
      | (obtain ⟨d3, w3, hw3, hSd, hz, hp, hs⟩ : ∃ d3 w3, w3 = w2 ∧ SWK enc k w0 blk off d3 w3 ∧ d3.size = d2.size ∧ PermIn mid b d2 d3 ∧ SortedIn (ltOf cf) mid b d3 := by
           have hin := HIN.out
           have hn := HN.out
           refine ⟨d2, w2, rfl, S3.out, rfl, permIn_refl _ _ _, ?_⟩
           by_cases hx : e = b
           · rw [← hx]; exact Q3'.out
           · have hy : e = mid := by have := HA.out; have := HD.out; omega
             rw [← hy]; exact Q4'.out
         rw [← hw3]
         have S4 := Lib.hid hSd
         have HZ3 := Lib.hid hz
         have HP3 := Lib.hid hp
         have HS3 := Lib.hid hs
         clear hSd hz hp hs S3 hw3)
  all_goals
    go_end0
    have hin := HIN.out
    have hn := HN.out
    have z1 := HZ.out
    have z2 := HZ2.out
    have z3 := HZ3.out
    obtain ⟨r1, r2⟩ := merge_halves (a := a) (mid := mid) (b := b) (by omega) (by omega) (by omega) QX.out HP2.out HS2.out HP3.out HS3.out
    exact ⟨rfl, d3, S4.out, by omega, permIn_trans _ _ _ _ _ (permIn_mono _ _ i e a b (by omega) (by omega) (by omega) HP.out) r1, r2⟩
end
end Go.Proofs.Ytkflhfdpdgnbfaa
