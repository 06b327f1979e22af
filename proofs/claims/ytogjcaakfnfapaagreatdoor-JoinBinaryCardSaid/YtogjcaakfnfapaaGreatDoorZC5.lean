/- The library's stable sort at elements of k cells: symMerge, whole. The library's stable sort at elements of k cells: symMerge, at every part. The library's stable sort at elements of k cells: the blocks, sorted by insertion. The library's stable sort at elements of k cells: blocks, then merges. Points of a row of one's own; sorted by their labels. (Several texts in one file, by merge.py.) -/
import Derived.Test.YtogjcaakfnfapaaGreatDoorZC4
import Derived.Test.YtogjcaakfnfapaaGreatDoorZC3
import Derived.Maps.AppendAt
namespace Go.Proofs.YtogjcaakfnfapaaGreatDoor
open Go.Shelf Go.RowKit Go.Lib Go.Sort
set_option linter.unusedVariables false
set_option linter.unusedSimpArgs false
set_option maxRecDepth 100000

section
variable {α : Type} [Inhabited α] {enc : α → List Value}
def SrchC (enc : α → List Value) (k : Nat) (w0 : World) (blk off : Nat) (lt : α → α → Bool) (lo hi n : Nat) (d : Array α) (iv jv : Value) (wr : World) : Prop := ∃ i j : Nat, iv = .int .i64 i ∧ jv = .int .i64 j ∧ lo ≤ i ∧ i ≤ j ∧ j ≤ hi ∧ (i = lo ∨ lt d[n - i]! d[i - 1]! = false) ∧ (j = hi ∨ lt d[n - 1 - j]! d[j]! = true) ∧ SWK enc k w0 blk off d wr
/-- The bounds of the merge's search. -/
def Bnds (a m b mid lo hi : Nat) : Prop := a ≤ lo ∧ lo ≤ hi ∧ hi ≤ m ∧ hi ≤ mid ∧ mid + m ≤ b + lo ∧ (lo = a ∨ lo + b = mid + m) ∧ (hi = m ∨ hi = mid)

set_option maxHeartbeats 16000000 in
theorem mergeC_P (k : Nat) (zE : ∀ w, (Go.sizeOf 50).run Tryz.prog w = .ok k w) (g : Nat) (cb : Array Value) (eg : ∀ args w, (callFunc g args).run Tryz.prog w = .ok (.enter g args) w) (cf : α → α → Int) (blk off cap a m b : Nat) (d0 d : Array α) (w0 w : World)
    (R : RowK enc k w0 blk off d0) (hs : d0.size = d.size) (S : SWK enc k w0 blk off d w) (hC : CmpLays Tryz.prog g cb enc k cf blk off d0.size w0) {lt : α → α → Bool} {Q : α → α → Prop} (hT : Tests Q cf lt) (hQ : Across Q a m b d) (hS : SWO lt) (ham : a + 1 < m) (hmb : m + 1 < b) (hb : b ≤ d.size) (hsz : d.size < 4611686018427387904) (h1 : SortedIn lt a m d) (h2 : SortedIn lt m b d)
    (hrec : ∀ (a' m' b' : Nat) (d' : Array α) (w' : World), b' - a' < b - a → d'.size = d.size → SWK enc k w0 blk off d' w' → a' < m' → m' < b' → b' ≤ d.size → SortedIn lt a' m' d' → SortedIn lt m' b' d' → Across Q a' m' b' d' →
      Calls Tryz.prog 88 #[.slice (some ⟨blk, off, none⟩) d.size cap, .int .i64 a', .int .i64 m', .int .i64 b', .func (.func g) #[] cb] w' fun e w2 => e = .returned (.tuple #[]) ∧ Merged enc k w0 blk off lt a' b' d' w2) :
    Calls Tryz.prog 88 #[.slice (some ⟨blk, off, none⟩) d.size cap, .int .i64 a, .int .i64 m, .int .i64 b, .func (.func g) #[] cb] w fun e w' => e = .returned (.tuple #[]) ∧ Merged enc k w0 blk off lt a b d w' := by
  have S0 : Aside (SWK enc k w0 blk off d w) := S
  have mixed : Tryz.prog.follows .mixedOrders = true := by kernel_rfl
  have HC := Lib.hid hC
  have HSW := Lib.hid hS
  have HT := Lib.hid hT
  have HQ := Lib.hid hQ
  have HS := Lib.hid hs
  have H1 := Lib.hid h1
  have H2 := Lib.hid h2
  have HREC := Lib.hid hrec
  have t1 : ((m : Int) - (a : Int) == 1) = false := by simp; omega
  have t2 : ((b : Int) - (m : Int) == 1) = false := by simp; omega
  have t3 : (m : Int) - (a : Int) ≠ 1 := by omega
  have t4 : (b : Int) - (m : Int) ≠ 1 := by omega
  obtain ⟨mid, hmid⟩ : ∃ mid : Nat, (mid : Int) = ((a : Int) + (b : Int)) / 2 := ⟨(a + b) / 2, by omega⟩
  have hm1 : 2 * mid ≤ a + b := by omega
  have hm2 : a + b ≤ 2 * mid + 1 := by omega
  have HMID := Lib.hid hmid
  clear S hC hT hQ hS hs h1 h2 hrec hmid
  go_enter Tryz.func88, Tryz.ntmps88
  by_cases hc : mid < m
  case' pos =>
    have hcz : ((a : Int) + (b : Int)) / 2 < (m : Int) := by have := HMID.out; omega
    have hcb : decide (((a : Int) + (b : Int)) / 2 < (m : Int)) = true := by simpa using hcz
    go_wp2_with fail
    rw [← HMID.out]
    obtain ⟨lo, elo⟩ : ∃ lo : Nat, lo = mid + m - b := ⟨_, rfl⟩
    obtain ⟨hi, ehi⟩ : ∃ hi : Nat, hi = mid := ⟨_, rfl⟩
    have HB : Hid (Bnds a m b mid lo hi) := by show Bnds _ _ _ _ _ _; unfold Bnds; omega
    have HLE : Hid ((lo : Int) = (mid : Int) + (m : Int) - (b : Int)) := by show _ = _; omega
    have HHE : Hid ((hi : Int) = (mid : Int)) := by show _ = _; omega
    clear elo ehi
  case' neg =>
    have hcz : ¬ ((a : Int) + (b : Int)) / 2 < (m : Int) := by have := HMID.out; omega
    have hcb : decide (((a : Int) + (b : Int)) / 2 < (m : Int)) = false := by simp only [decide_eq_false_iff_not]; exact hcz
    go_wp2_with fail
    rw [← HMID.out]
    obtain ⟨lo, elo⟩ : ∃ lo : Nat, lo = a := ⟨_, rfl⟩
    obtain ⟨hi, ehi⟩ : ∃ hi : Nat, hi = m := ⟨_, rfl⟩
    have HB : Hid (Bnds a m b mid lo hi) := by show Bnds _ _ _ _ _ _; unfold Bnds; omega
    have HLE : Hid ((lo : Int) = (a : Int)) := by show _ = _; omega
    have HHE : Hid ((hi : Int) = (m : Int)) := by show _ = _; omega
    clear elo ehi
  all_goals go_loopw [20, 21] (fun iv jv wr => SrchC enc k w0 blk off lt lo hi (mid + m) d iv jv wr) (fun iv jv _ => (intOf jv).toNat - (intOf iv).toNat)
  case atStart => exact ⟨lo, hi, by congr 1; exact HLE.out.symm, by congr 1; exact HHE.out.symm, Nat.le_refl _, HB.out.2.1, Nat.le_refl _, .inl rfl, .inl rfl, S0.out⟩
  case atStart => exact ⟨lo, hi, by congr 1; exact HLE.out.symm, by congr 1; exact HHE.out.symm, Nat.le_refl _, HB.out.2.1, Nat.le_refl _, .inl rfl, .inl rfl, S0.out⟩
  all_goals
    clear S0
    obtain ⟨i, j, rfl, rfl, hai, hij, hjm, hlo, hhi, hSr⟩ := hrel
    have S1 := Lib.hid hSr
    have HLO := Lib.hid hlo
    have HHI := Lib.hid hhi
    obtain ⟨b1, b2, b3, b4, b5, b6, b7⟩ := HB.out
    have B6 := Lib.hid b6
    have B7 := Lib.hid b7
    clear hSr hlo hhi b6 b7
  all_goals by_cases hlt : i < j
  case pos =>
      have hltz : (i : Int) < (j : Int) := by omega
      have p0 : (0 : Int) ≤ ((i : Int) + (j : Int)) / 2 := by omega
      have p1 : ((i : Int) + (j : Int)) / 2 < (d.size : Int) := by omega
      have p2 : (((i : Int) + (j : Int)) / 2).toNat = (i + j) / 2 := by omega
      have p3 : (0 : Int) ≤ (mid : Int) + (m : Int) - 1 - ((i : Int) + (j : Int)) / 2 := by omega
      have p7 : ((i : Int) + (j : Int)) / 2 ≤ (mid : Int) + (m : Int) - 1 := by omega
      have p4 : (mid : Int) + (m : Int) - 1 - ((i : Int) + (j : Int)) / 2 < (d.size : Int) := by omega
      have p5 : ((mid : Int) + (m : Int) - 1 - ((i : Int) + (j : Int)) / 2).toNat = mid + m - 1 - (i + j) / 2 := by omega
      have p6 : IntKind.i64.wrap ((mid : Int) + (m : Int) - 1 - ((i : Int) + (j : Int)) / 2) = (mid : Int) + (m : Int) - 1 - ((i : Int) + (j : Int)) / 2 := by rw [IntKind.wrap_i64]; omega
      obtain ⟨xc, hxc⟩ : ∃ x, d[(i + j) / 2]! = x := ⟨_, rfl⟩
      obtain ⟨xp, hxp⟩ : ∃ x, d[mid + m - 1 - (i + j) / 2]! = x := ⟨_, rfl⟩
      have lj := fun n' os' => S1.out.ld R HS.out.symm Tryz.prog ((i + j) / 2) (by omega) n' os'
      have lp := fun n' os' => S1.out.ld R HS.out.symm Tryz.prog (mid + m - 1 - (i + j) / 2) (by omega) n' os'
      rw [hxc] at lj
      rw [hxp] at lp
      have hcg := fun n' os' => S1.out.cmp HC.out HS.out.symm xp xc n' os'
      have HXC := Lib.hid hxc
      have HXP := Lib.hid hxp
      have HQX := Lib.hid (show Q xp xc by rw [← hxc, ← hxp]; exact HQ.out ((i + j) / 2) (mid + m - 1 - (i + j) / 2) (by omega) (by omega) (by omega) (by omega))
      clear hxc hxp
      by_cases hlv : cf xp xc < 0
      · have hb1 : decide (cf xp xc < 0) = true := by simpa using hlv
        go_wp2_with fail
        go_quiet_grown (first | (go_at_fn g; refine Calls.grown_of (hcg _ _)))
        go_wp2_with fail
        go_roundw
        case rel => exact ⟨i, (i + j) / 2, rfl, by congr 1, hai, by omega, by omega, HLO.out, .inr (by rw [HXC.out, HXP.out]; exact HT.out.lo _ _ HQX.out hlv), S1.out.grown nq osq⟩
        case measure => simp [intOf]; omega
      · have hlv2 : 0 ≤ cf xp xc := by omega
        have hb1 : decide (cf xp xc < 0) = false := by simp; omega
        clear hlv
        go_wp2_with fail
        go_quiet_grown (first | (go_at_fn g; refine Calls.grown_of (hcg _ _)))
        go_wp2_with fail
        go_roundw
        case rel => exact ⟨(i + j) / 2 + 1, j, by congr 1, rfl, by omega, by omega, hjm, .inr (by rw [show (i + j) / 2 + 1 - 1 = (i + j) / 2 by omega, show mid + m - ((i + j) / 2 + 1) = mid + m - 1 - (i + j) / 2 by omega, HXC.out, HXP.out]; exact HT.out.hi _ _ HQX.out hlv2), HHI.out, S1.out.grown nq osq⟩
        case measure => simp [intOf]; omega
  case pos =>
      have hltz : (i : Int) < (j : Int) := by omega
      have p0 : (0 : Int) ≤ ((i : Int) + (j : Int)) / 2 := by omega
      have p1 : ((i : Int) + (j : Int)) / 2 < (d.size : Int) := by omega
      have p2 : (((i : Int) + (j : Int)) / 2).toNat = (i + j) / 2 := by omega
      have p3 : (0 : Int) ≤ (mid : Int) + (m : Int) - 1 - ((i : Int) + (j : Int)) / 2 := by omega
      have p7 : ((i : Int) + (j : Int)) / 2 ≤ (mid : Int) + (m : Int) - 1 := by omega
      have p4 : (mid : Int) + (m : Int) - 1 - ((i : Int) + (j : Int)) / 2 < (d.size : Int) := by omega
      have p5 : ((mid : Int) + (m : Int) - 1 - ((i : Int) + (j : Int)) / 2).toNat = mid + m - 1 - (i + j) / 2 := by omega
      have p6 : IntKind.i64.wrap ((mid : Int) + (m : Int) - 1 - ((i : Int) + (j : Int)) / 2) = (mid : Int) + (m : Int) - 1 - ((i : Int) + (j : Int)) / 2 := by rw [IntKind.wrap_i64]; omega
      obtain ⟨xc, hxc⟩ : ∃ x, d[(i + j) / 2]! = x := ⟨_, rfl⟩
      obtain ⟨xp, hxp⟩ : ∃ x, d[mid + m - 1 - (i + j) / 2]! = x := ⟨_, rfl⟩
      have lj := fun n' os' => S1.out.ld R HS.out.symm Tryz.prog ((i + j) / 2) (by omega) n' os'
      have lp := fun n' os' => S1.out.ld R HS.out.symm Tryz.prog (mid + m - 1 - (i + j) / 2) (by omega) n' os'
      rw [hxc] at lj
      rw [hxp] at lp
      have hcg := fun n' os' => S1.out.cmp HC.out HS.out.symm xp xc n' os'
      have HXC := Lib.hid hxc
      have HXP := Lib.hid hxp
      have HQX := Lib.hid (show Q xp xc by rw [← hxc, ← hxp]; exact HQ.out ((i + j) / 2) (mid + m - 1 - (i + j) / 2) (by omega) (by omega) (by omega) (by omega))
      clear hxc hxp
      by_cases hlv : cf xp xc < 0
      · have hb1 : decide (cf xp xc < 0) = true := by simpa using hlv
        go_wp2_with fail
        go_quiet_grown (first | (go_at_fn g; refine Calls.grown_of (hcg _ _)))
        go_wp2_with fail
        go_roundw
        case rel => exact ⟨i, (i + j) / 2, rfl, by congr 1, hai, by omega, by omega, HLO.out, .inr (by rw [HXC.out, HXP.out]; exact HT.out.lo _ _ HQX.out hlv), S1.out.grown nq osq⟩
        case measure => simp [intOf]; omega
      · have hlv2 : 0 ≤ cf xp xc := by omega
        have hb1 : decide (cf xp xc < 0) = false := by simp; omega
        clear hlv
        go_wp2_with fail
        go_quiet_grown (first | (go_at_fn g; refine Calls.grown_of (hcg _ _)))
        go_wp2_with fail
        go_roundw
        case rel => exact ⟨(i + j) / 2 + 1, j, by congr 1, rfl, by omega, by omega, hjm, .inr (by rw [show (i + j) / 2 + 1 - 1 = (i + j) / 2 by omega, show mid + m - ((i + j) / 2 + 1) = mid + m - 1 - (i + j) / 2 by omega, HXC.out, HXP.out]; exact HT.out.hi _ _ HQX.out hlv2), HHI.out, S1.out.grown nq osq⟩
        case measure => simp [intOf]; omega
  all_goals obtain rfl : i = j := by omega
  all_goals have hltz : ¬ (i : Int) < (i : Int) := by omega
  all_goals clear hlt
  all_goals obtain ⟨e, he⟩ : ∃ e, e = mid + m - i := ⟨_, rfl⟩
  all_goals
    have hE : (e : Int) = (mid : Int) + (m : Int) - (i : Int) := by omega
    have hN : e + i = mid + m := by omega
    have hK1 : i = a ∨ e = b ∨ lt d[e]! d[i - 1]! = false := by
      rcases HLO.out with h | h
      · rcases B6.out with h2 | h2
        · exact .inl (by omega)
        · exact .inr (.inl (by omega))
      · exact .inr (.inr (by rw [he]; exact h))
    have hK2 : i = m ∨ e = m ∨ lt d[e - 1]! d[i]! = true := by
      rcases HHI.out with h | h
      · rcases B7.out with h2 | h2
        · exact .inl (by omega)
        · exact .inr (.inl (by omega))
      · exact .inr (.inr (by rw [show e - 1 = mid + m - 1 - i by omega]; exact h))
    have hR : i < m → i < mid → Calls Tryz.prog 96 #[.slice (some ⟨blk, off, none⟩) d.size cap, .int .i64 i, .int .i64 m, .int .i64 ((mid : Int) + (m : Int) - (i : Int)), .func (.func g) #[] cb] wr fun en w' => en = .returned (.tuple #[]) ∧ Turned enc k w0 blk off i m e d w' := by
      intro hA hB
      have h := rotate_P k zE blk off cap i m e d0 d w0 wr (.func (.func g) #[] cb) R HS.out S1.out hA (by omega) (by omega) hsz
      rw [hE] at h
      exact h
    have HE := Lib.hid hE
    have HN := Lib.hid hN
    have HK1 := Lib.hid hK1
    have HK2 := Lib.hid hK2
    have HROT := Lib.hid hR
    have HIN := Lib.hid (show i ≤ m ∧ i ≤ mid ∧ a ≤ i ∧ e ≤ b ∧ m ≤ e by omega)
    have HHC := Lib.hid hc
    have bi1 : i ≤ m := by omega
    have bi2 : i ≤ mid := by omega
    have bi3 : mid + m - i ≤ b := by omega
    clear he hE hN hK1 hK2 hR HLO HHI HC hij hjm hai b1 b2 b3 b4 b5 B6 B7 hc HLE HHE HB
  all_goals by_cases hA : i < m
  all_goals by_cases hB : i < mid
  all_goals by_cases hC : a < i
  all_goals by_cases hD : e < b
  all_goals
    first | have fA : (i : Int) < (m : Int) := by omega | have fA : ¬ (i : Int) < (m : Int) := by omega
    first | have fB : (m : Int) < (mid : Int) + (m : Int) - (i : Int) := by omega | have fB : ¬ (m : Int) < (mid : Int) + (m : Int) - (i : Int) := by omega
    first | have fC : (a : Int) < (i : Int) := by omega | have fC : ¬ (a : Int) < (i : Int) := by omega
    first | have fE : (i : Int) < (mid : Int) := by omega | have fE : ¬ (i : Int) < (mid : Int) := by omega
    first | have fF : (mid : Int) < (mid : Int) + (m : Int) - (i : Int) := by omega | have fF : ¬ (mid : Int) < (mid : Int) + (m : Int) - (i : Int) := by omega
    first | have fD : (mid : Int) + (m : Int) - (i : Int) < (b : Int) := by have := HE.out; omega | have fD : ¬ (mid : Int) + (m : Int) - (i : Int) < (b : Int) := by have := HE.out; omega
    have HA := Lib.hid hA
    have HB := Lib.hid hB
    have HCC := Lib.hid hC
    have HD := Lib.hid hD
    clear hA hB hC hD
  all_goals go_wp2_with fail
  all_goals try (exfalso; have := HE.out; have := HN.out; have := HIN.out; have := HA.out; have := HB.out; have := HCC.out; have := HD.out; omega)
  all_goals
    first
      | (have hA := HA.out
         have hB := HB.out
         refine (HROT.out hA hB).mono ?_
         rintro e1 w1 ⟨rfl, d1, hSd, hz, hp, hr⟩
         have S2 := Lib.hid hSd
         have HZ := Lib.hid hz
         have HP := Lib.hid hp
         have HR := Lib.hid hr
         clear hSd hz hp hr hA hB S1
         go_wp2_with fail)
      | (obtain ⟨d1, w1, hw1, hSd, hz, hp, hr⟩ : ∃ d1 w1, w1 = wr ∧ SWK enc k w0 blk off d1 w1 ∧ d1.size = d.size ∧ PermIn i e d d1 ∧ ∀ x, d1[x]! = rot i m e d x := by
           have hAB : i = m ∨ e = m := by have := HA.out; have := HB.out; have := HN.out; have := HIN.out; omega
           have hin := HIN.out
           refine ⟨d, wr, rfl, S1.out, rfl, permIn_refl _ _ _, fun x => ?_⟩
           rw [rot]
           repeat' split
           all_goals first | rfl | (congr 1; omega)
         rw [← hw1]
         have S2 := Lib.hid hSd
         have HZ := Lib.hid hz
         have HP := Lib.hid hp
         have HR := Lib.hid hr
         clear hSd hz hp hr S1 hw1)
  all_goals
    obtain ⟨u1, u2, u3, u4, q1, q2, q3, q4, qx⟩ := merge_turn HSW.out HIN.out.2.2.1 HIN.out.1 HIN.out.2.2.2.2 HIN.out.2.2.2.1 H1.out H2.out HK1.out HK2.out HR.out
    rw [show i + (e - m) = mid by have := HIN.out; have := HN.out; omega] at q2 q3 qx u3 u4
    have QA := Lib.hid (show Across Q a i mid d1 by
      intro x y h1 h2 h3 h4
      rw [u1 x h1 h2, u3 y h3 h4]
      exact HQ.out x (y - i + m) h1 (by have := HIN.out; omega) (by omega) (by have := HIN.out; have := HN.out; omega))
    have QB := Lib.hid (show Across Q mid e b d1 by
      intro x y h1 h2 h3 h4
      rw [u4 x h1 h2, u2 y h3 h4]
      exact HQ.out (x - (e - m)) y (by have := HIN.out; have := HN.out; omega) (by have := HIN.out; have := HN.out; omega) (by have := HIN.out; omega) h4)
    clear u1 u2 u3 u4
    have Q1 := Lib.hid q1
    have Q2 := Lib.hid q2
    have Q3 := Lib.hid q3
    have Q4 := Lib.hid q4
    have QX := Lib.hid qx
    clear q1 q2 q3 q4 qx HROT HR HK1 HK2 H1 H2
    first
      | (have hA := HCC.out
         have hB := HB.out
         have hin := HIN.out
         refine (HREC.out a i mid d1 w1 (by omega) HZ.out S2.out hA hB (by omega) Q1.out Q2.out QA.out).mono ?_
         rintro e2 w2 ⟨rfl, d2, hSd, hz, hp, hs⟩
         have S3 := Lib.hid hSd
         have HZ2 := Lib.hid hz
         have HP2 := Lib.hid hp
         have HS2 := Lib.hid hs
         clear hSd hz hp hs hA hB hin S2
         go_wp2_with fail)
      | (obtain ⟨d2, w2, hw2, hSd, hz, hp, hs⟩ : ∃ d2 w2, w2 = w1 ∧ SWK enc k w0 blk off d2 w2 ∧ d2.size = d1.size ∧ PermIn a mid d1 d2 ∧ SortedIn lt a mid d2 := by
           have hin := HIN.out
           refine ⟨d1, w1, rfl, S2.out, rfl, permIn_refl _ _ _, ?_⟩
           by_cases hx : i = a
           · rw [← hx]; exact Q2.out
           · have hy : i = mid := by have := HCC.out; have := HB.out; omega
             rw [← hy]; exact Q1.out
         rw [← hw2]
         have S3 := Lib.hid hSd
         have HZ2 := Lib.hid hz
         have HP2 := Lib.hid hp
         have HS2 := Lib.hid hs
         clear hSd hz hp hs S2 hw2)
  all_goals
    have q3 : SortedIn lt mid e d2 := SortedIn.congr Q3.out fun x hx hx2 => HP2.out.2.1 x (.inr hx)
    have q4 : SortedIn lt e b d2 := SortedIn.congr Q4.out fun x hx hx2 => HP2.out.2.1 x (.inr (by have := HIN.out; have := HN.out; omega))
    have QB' := Lib.hid (show Across Q mid e b d2 from fun x y h1 h2 h3 h4 => by rw [HP2.out.2.1 x (.inr h1), HP2.out.2.1 y (.inr (by omega))]; exact QB.out x y h1 h2 h3 h4)
    have Q3' := Lib.hid q3
    have Q4' := Lib.hid q4
    clear q3 q4
    first
      | (have hA := HA.out
         have hB := HD.out
         have hin := HIN.out
         have hn := HN.out
         have h := HREC.out mid e b d2 w2 (by omega) (by rw [HZ2.out]; exact HZ.out) S3.out (by omega) hB (by omega) Q3'.out Q4'.out QB'.out
         rw [HE.out] at h
         refine h.mono ?_
         clear h
         rintro e3 w3 ⟨rfl, d3, hSd, hz, hp, hs⟩
         have S4 := Lib.hid hSd
         have HZ3 := Lib.hid hz
         have HP3 := Lib.hid hp
         have HS3 := Lib.hid hs
         clear hSd hz hp hs hA hB hin hn S3
         go_wp2_with fail)
      | (obtain ⟨d3, w3, hw3, hSd, hz, hp, hs⟩ : ∃ d3 w3, w3 = w2 ∧ SWK enc k w0 blk off d3 w3 ∧ d3.size = d2.size ∧ PermIn mid b d2 d3 ∧ SortedIn lt mid b d3 := by
           have hin := HIN.out
           have hn := HN.out
           refine ⟨d2, w2, rfl, S3.out, rfl, permIn_refl _ _ _, ?_⟩
           by_cases hx : e = b
           · rw [← hx]; exact Q3'.out
           · have hy : e = mid := by have := HA.out; have := HD.out; omega
             rw [← hy]; exact Q4'.out
         rw [← hw3]
         have S4 := Lib.hid hSd
         have HZ3 := Lib.hid hz
         have HP3 := Lib.hid hp
         have HS3 := Lib.hid hs
         clear hSd hz hp hs S3 hw3)
  all_goals
    go_end0
    have hin := HIN.out
    have hn := HN.out
    have z1 := HZ.out
    have z2 := HZ2.out
    have z3 := HZ3.out
    obtain ⟨r1, r2⟩ := merge_halves (a := a) (mid := mid) (b := b) (by omega) (by omega) (by omega) QX.out HP2.out HS2.out HP3.out HS3.out
    exact ⟨rfl, d3, S4.out, by omega, permIn_trans _ _ _ _ _ (permIn_mono _ _ i e a b (by omega) (by omega) (by omega) HP.out) r1, r2⟩
end
end Go.Proofs.YtogjcaakfnfapaaGreatDoor
namespace Go.Proofs.YtogjcaakfnfapaaGreatDoor
open Go.Shelf Go.RowKit Go.Lib Go.Sort
set_option linter.unusedVariables false
set_option linter.unusedSimpArgs false
set_option maxRecDepth 100000

section
variable {α : Type} [Inhabited α] {enc : α → List Value}
theorem symMerge_P (k : Nat) (zE : ∀ w, (Go.sizeOf 50).run Tryz.prog w = .ok k w) (g : Nat) (cb : Array Value) (eg : ∀ args w, (callFunc g args).run Tryz.prog w = .ok (.enter g args) w) (cf : α → α → Int) (blk off cap : Nat) (d0 : Array α) (w0 : World)
    (R : RowK enc k w0 blk off d0) (hC : CmpLays Tryz.prog g cb enc k cf blk off d0.size w0) {lt : α → α → Bool} {Q : α → α → Prop} (hT : Tests Q cf lt) (hS : SWO lt) (hsz : d0.size < 4611686018427387904) :
    ∀ (f a m b : Nat) (d : Array α) (w : World), b - a ≤ f → d0.size = d.size → SWK enc k w0 blk off d w → a < m → m < b → b ≤ d.size → SortedIn lt a m d → SortedIn lt m b d → Across Q a m b d →
      Calls Tryz.prog 88 #[.slice (some ⟨blk, off, none⟩) d.size cap, .int .i64 a, .int .i64 m, .int .i64 b, .func (.func g) #[] cb] w fun e w' => e = .returned (.tuple #[]) ∧ Merged enc k w0 blk off lt a b d w' := by
  intro f
  induction f with
  | zero => intro a m b d w h; intros; omega
  | succ f ih =>
    intro a m b d w hf hs S ham hmb hb h1 h2 hQ
    by_cases c1 : m = a + 1
    · exact mergeA_P k zE g cb eg cf blk off cap a m b d0 d w0 w R hs S hC hT hQ hS c1 hmb hb (by omega) h2
    · by_cases c2 : b = m + 1
      · exact mergeB_P k zE g cb eg cf blk off cap a m b d0 d w0 w R hs S hC hT hQ hS (by omega) c2 hb (by omega) h1
      · refine mergeC_P k zE g cb eg cf blk off cap a m b d0 d w0 w R hs S hC hT hQ hS (by omega) (by omega) hb (by omega) h1 h2 ?_
        intro a' m' b' d' w' hlt hz hS' ham' hmb' hb' h1' h2' hQ'
        have h := ih a' m' b' d' w' (by omega) (by omega) hS' ham' hmb' (by omega) h1' h2' hQ'
        rw [hz] at h
        exact h
end
end Go.Proofs.YtogjcaakfnfapaaGreatDoor
namespace Go.Proofs.YtogjcaakfnfapaaGreatDoor
open Go.Shelf Go.RowKit Go.Lib Go.Sort
set_option linter.unusedVariables false
set_option linter.unusedSimpArgs false
set_option maxRecDepth 100000

section
variable {α : Type} [Inhabited α] {enc : α → List Value} {cf : α → α → Int} {lt : α → α → Bool} {Q : α → α → Prop}
/-- Each pair of a part, the later one first. -/
def Pairs (Q : α → α → Prop) (a i b : Nat) (d : Array α) : Prop := ∀ x y, a ≤ x → x < y → i ≤ y → y < b → Q d[y]! d[x]!
omit [Inhabited α] in
theorem Tests.same (hT : Tests Q cf lt) {p q : α} (h : Q p q) : ltOf cf p q = lt p q := by
  by_cases hc : cf p q < 0
  · rw [hT.lo p q h hc]; simpa [ltOf] using hc
  · rw [hT.hi p q h (by omega)]; simpa [ltOf] using hc
theorem insInner_same (hT : Tests Q cf lt) (a : Nat) : ∀ (j : Nat) (d : Array α), j < d.size → (∀ x, a ≤ x → x < j → Q d[j]! d[x]!) → insInner (ltOf cf) a j d = insInner lt a j d
  | 0, d, _, _ => rfl
  | j + 1, d, hj, h => by
    unfold insInner
    by_cases hc : j + 1 > a
    · rw [hT.same (h j (by omega) (by omega))]
      split
      · refine insInner_same hT a j _ (by rw [size_swp]; omega) fun x h1 h2 => ?_
        rw [swp_right _ _ _ (by omega), swp_other _ _ _ _ (by omega) (by omega)]
        exact h x h1 (by omega)
      · rfl
    · simp [hc]
theorem insInner_perm (a i : Nat) : ∀ (j : Nat) (d : Array α), a ≤ j → j ≤ i → i < d.size → PermIn a (i + 1) d (insInner lt a j d)
  | 0, d, _, _, _ => permIn_refl _ _ _
  | j + 1, d, haj, hji, hs => by
    unfold insInner
    split
    · rename_i hc
      simp only [Bool.and_eq_true, decide_eq_true_eq] at hc
      exact permIn_trans _ _ _ _ _ (swp_permIn d a (i + 1) (j + 1) j (by omega) (by omega) (by omega) (by omega) (by omega)) (insInner_perm a i j _ (by omega) (by omega) (by rw [size_swp]; exact hs))
    · exact permIn_refl _ _ _
theorem insOuter_same (hT : Tests Q cf lt) (a b : Nat) : ∀ (n i : Nat) (d : Array α), b - i = n → a ≤ i → b ≤ d.size → Pairs Q a i b d → insOuter (ltOf cf) a b i d = insOuter lt a b i d
  | 0, i, d, hn, _, _, _ => by
    rw [insOuter_stop _ _ _ _ _ (by omega), insOuter_stop _ _ _ _ _ (by omega)]
  | n + 1, i, d, hn, hai, hb, h => by
    have hlt : i < b := by omega
    rw [insOuter_go _ _ _ _ _ hlt, insOuter_go _ _ _ _ _ hlt, insInner_same hT a i d (by omega) fun x h1 h2 => h x i h1 h2 (Nat.le_refl _) hlt]
    have hp := insInner_perm (lt := lt) a i i d hai (Nat.le_refl _) (by omega)
    refine insOuter_same hT a b n (i + 1) _ (by omega) (by omega) (by rw [hp.1]; exact hb) fun x y h1 h2 h3 h4 => ?_
    rw [hp.2.1 y (.inr h3)]
    by_cases hx : x < i + 1
    · exact permIn_all d _ a (i + 1) (fun z => Q d[y]! z) (by omega) hp (fun z h5 h6 => h z y h5 (by omega) (by omega) h4) x h1 hx
    · rw [hp.2.1 x (.inr (by omega))]
      exact h x y h1 h2 (by omega) h4
set_option maxHeartbeats 8000000 in
theorem insertion_P (k : Nat) (zE : ∀ w, (Go.sizeOf 50).run Tryz.prog w = .ok k w) (g : Nat) (cb : Array Value) (eg : ∀ args w, (callFunc g args).run Tryz.prog w = .ok (.enter g args) w) (cf : α → α → Int) (blk off cap a b : Nat) (d0 d : Array α) (w0 w : World)
    (R : RowK enc k w0 blk off d0) (hs : d0.size = d.size) (S : SWK enc k w0 blk off d w) (hC : CmpLays Tryz.prog g cb enc k cf blk off d0.size w0) {lt : α → α → Bool} {Q : α → α → Prop} (hT : Tests Q cf lt) (hQ : Pairs Q a a b d) (hS : SWO lt) (hab : a ≤ b) (hb : b ≤ d.size) (hsz : d.size < 4611686018427387904) :
    Calls Tryz.prog 87 #[.slice (some ⟨blk, off, none⟩) d.size cap, .int .i64 a, .int .i64 b, .func (.func g) #[] cb] w fun e w' => e = .returned (.tuple #[]) ∧ Merged enc k w0 blk off lt a b d w' := by
  have S0 : Aside (SWK enc k w0 blk off d w) := S
  have mixed : Tryz.prog.follows .mixedOrders = true := by kernel_rfl
  have HC := Lib.hid hC
  have HSW := Lib.hid hS
  have HT := Lib.hid hT
  have HQ := Lib.hid hQ
  have HS := Lib.hid hs
  clear S hC hT hQ hS hs
  go_enter Tryz.func87, Tryz.ntmps87
  go_wp2_with fail
  go_loopg [8] (b - a) (fun g1 vi wr => ∃ (i : Nat) (dk : Array α), vi = .int .i64 i ∧ a < i ∧ i ≤ b + 1 ∧ b + 1 - i ≤ g1 + 1 ∧ dk.size = d.size ∧ Aside (SWK enc k w0 blk off dk wr) ∧ Hid (insOuter (ltOf cf) a b i dk = insOuter (ltOf cf) a b (a + 1) d))
  case atStart => exact ⟨a + 1, d, by go_num, by omega, by omega, by omega, rfl, S0, rfl⟩
  case round =>
    clear S0
    obtain ⟨i, dk, rfl, hai, hib, hg1, hsk, S1, HO⟩ := hrel
    by_cases hlt : i < b
    · have hltz : (i : Int) < (b : Int) := by omega
      go_wp2_with fail
      go_loopg [9] i (fun g2 vj wr2 => ∃ (j : Nat) (dj : Array α), vj = .int .i64 j ∧ a ≤ j ∧ j ≤ i ∧ j ≤ g2 ∧ dj.size = d.size ∧ Aside (SWK enc k w0 blk off dj wr2) ∧ Hid (insInner (ltOf cf) a j dj = insInner (ltOf cf) a i dk))
      case atStart => exact ⟨i, dk, rfl, by omega, Nat.le_refl _, Nat.le_refl _, hsk, S1, rfl⟩
      case round =>
        clear S1
        obtain ⟨j, dj, rfl, haj, hji, hg2, hsj, S1, HI⟩ := hrel
        have out : (j ≤ a ∨ ltOf cf dj[j]! dj[j - 1]! = false) → Hid (insOuter (ltOf cf) a b (i + 1) dj = insOuter (ltOf cf) a b (a + 1) d) := fun hs => by
          show _ = _
          rw [← HO.out, insOuter_go _ _ _ _ _ hlt, ← HI.out, insInner_stop _ _ _ _ hs]
        have OUT : Aside _ := out
        clear out
        by_cases hja : a < j
        · have hjaz : (a : Int) < (j : Int) := by omega
          obtain ⟨jp, rfl⟩ : ∃ jp, j = jp + 1 := ⟨j - 1, by omega⟩
          obtain ⟨xj, hxj⟩ : ∃ x, dj[jp + 1]! = x := ⟨_, rfl⟩
          obtain ⟨xp, hxp⟩ : ∃ x, dj[jp]! = x := ⟨_, rfl⟩
          have hwp : IntKind.i64.wrap (jp : Int) = (jp : Int) := by rw [IntKind.wrap_i64]; omega
          have jz : (jp : Int) + 1 < (d.size : Int) := by omega
          have jz1 : (jp : Int) < (d.size : Int) := by omega
          have hjaz' : (a : Int) < (jp : Int) + 1 := by omega
          have p0 : (0 : Int) ≤ (jp : Int) + 1 := by omega
          have p1 : (0 : Int) ≤ (jp : Int) := by omega
          have e0 : ((jp : Int) + 1).toNat = jp + 1 := by omega
          have e1 : ((jp : Int)).toNat = jp := by omega
          have lj := fun n' os' => S1.out.ld R (hsj.trans HS.out.symm) Tryz.prog (jp + 1) (by omega) n' os'
          have lp := fun n' os' => S1.out.ld R (hsj.trans HS.out.symm) Tryz.prog jp (by omega) n' os'
          rw [hxj] at lj
          rw [hxp] at lp
          have hcg := fun n' os' => S1.out.cmp HC.out (hsj.trans HS.out.symm) xj xp n' os'
          have HXJ := Lib.hid hxj
          have HXP := Lib.hid hxp
          clear hxj hxp
          by_cases hlv : cf xj xp < 0
          · go_wp2_with fail
            go_quiet_grown (first | (go_at_fn g; refine Calls.grown_of (hcg _ _)))
            go_wp2_with fail
            have S2 : Aside (SWK enc k w0 blk off dj (grow (wr.drewN nq) osq)) := S1.out.grown nq osq
            have hz0 : dj.size = d0.size := hsj.trans HS.out.symm
            clear lj lp hcg S1
            generalize grow (wr.drewN nq) osq = wq at S2 ⊢
            have S3 : Aside (SWK enc k w0 blk off (swp dj (jp + 1) jp) ((wq.drew.setCells blk (off + (jp + 1) * k) (enc dj[jp]!)).setCells blk (off + jp * k) (enc dj[jp + 1]!))) := S2.out.swapped R (jp + 1) jp (by omega) (by omega)
            have l1 := S2.out.ld1 R hz0 Tryz.prog jp (by omega)
            have l2 := S2.out.ld1 R hz0 Tryz.prog (jp + 1) (by omega)
            have s1 := S2.out.st1 R hz0 Tryz.prog (jp + 1) (by omega) dj[jp]!
            have s2 := S2.out.st2 R hz0 Tryz.prog (jp + 1) jp (by omega) (by omega) dj[jp]! dj[jp + 1]!
            have n1 : (enc dj[jp]!).length = k := R.hk _
            have n2 : (enc dj[jp + 1]!).length = k := R.hk _
            generalize enc dj[jp]! = cI at S3 l1 s1 s2 n1
            generalize enc dj[jp + 1]! = cJ at S3 l2 s2 n2
            clear S2 hz0
            go_big_region_o
            clear l1 l2 s1 s2
            all_goals generalize (wq.drew.setCells blk (off + (jp + 1) * k) cI).setCells blk (off + jp * k) cJ = w2 at S3 ⊢
            all_goals go_wp2_with fail
            go_roundg jp
            case measure => omega
            case rel =>
              refine ⟨jp, swp dj (jp + 1) jp, by first | rfl | go_num | (congr 1; omega), by omega, by omega, Nat.le_refl _, by rw [size_swp]; exact hsj, S3, (show Hid _ from ?_)⟩
              show _ = _
              have := insInner_go (ltOf cf) a (jp + 1) dj hja (by simp only [Nat.add_sub_cancel]; rw [HXJ.out, HXP.out]; exact decide_eq_true hlv)
              simp only [Nat.add_sub_cancel] at this
              rw [← HI.out, this]
          · go_wp2_with fail
            go_quiet_grown (first | (go_at_fn g; refine Calls.grown_of (hcg _ _)))
            go_wp2_with fail
            go_roundg (b - (i + 1))
            case measure => omega
            case rel => exact ⟨i + 1, dj, by go_num, by omega, by omega, by omega, hsj, S1.out.grown nq osq, OUT.out (Or.inr (by simp only [Nat.add_sub_cancel]; rw [HXJ.out, HXP.out]; exact decide_eq_false (by omega)))⟩
        · have hjaz : decide ((j : Int) > (a : Int)) = false := decide_eq_false (by omega)
          have hjaz' : ¬ (a : Int) < (j : Int) := by omega
          go_wp2_with fail
          go_big_region_o
          all_goals go_wp2_with fail
          go_roundg (b - (i + 1))
          case measure => omega
          case rel => exact ⟨i + 1, dj, by go_num, by omega, by omega, by omega, hsj, S1.out.drew, OUT.out (Or.inl (by omega))⟩
    · have hltz : ¬ (i : Int) < (b : Int) := by omega
      go_wp2_with fail
      go_end0
      have he : dk = insertionSort lt d a b := by
        unfold Sort.insertionSort
        rw [← insOuter_same HT.out a b (b - (a + 1)) (a + 1) d rfl (by omega) hb (fun x y h1 h2 h3 h4 => HQ.out x y h1 h2 (by omega) h4), ← HO.out, insOuter_stop _ _ _ _ _ hlt]
      obtain ⟨r1, r2⟩ := insertionSort_holds HSW.out d a b hab hb
      rw [← he] at r1 r2
      exact ⟨rfl, dk, S1.out, hsk, r1, r2⟩
end
end Go.Proofs.YtogjcaakfnfapaaGreatDoor
namespace Go.Proofs.YtogjcaakfnfapaaGreatDoor
open Go.Shelf Go.RowKit Go.Lib Go.Sort
set_option linter.unusedVariables false
set_option linter.unusedSimpArgs false
set_option maxRecDepth 100000

section
variable {α : Type} [Inhabited α] {enc : α → List Value} {lt : α → α → Bool}
def Blk (lt : α → α → Bool) (s n t0 : Nat) (d : Array α) : Prop := ∀ t, t0 ≤ t → SortedIn lt (s * t) (min (s * t + s) n) d
def Bel (lt : α → α → Bool) (s q : Nat) (d : Array α) : Prop := ∀ t, t < q → SortedIn lt (s * t) (s * t + s) d
theorem bel_step {s q : Nat} {d d' : Array α} (h : Bel lt s q d) (hp : PermIn (s * q) (s * q + s) d d') (hs : SortedIn lt (s * q) (s * q + s) d') : Bel lt s (q + 1) d' := by
  intro t ht
  by_cases hc : t = q
  · subst hc; exact hs
  · have := Nat.mul_le_mul_left s (show t + 1 ≤ q by omega)
    rw [Nat.mul_add, Nat.mul_one] at this
    exact SortedIn.congr (h t (by omega)) fun x h1 h2 => hp.2.1 x (.inl (by omega))
theorem bel_end {s q n : Nat} {d d' : Array α} (h : Bel lt s q d) (hn : s * q ≤ n) (hn2 : n < s * q + s) (hp : PermIn (s * q) n d d') (hs : SortedIn lt (s * q) n d') : Blk lt s n 0 d' := by
  intro t _
  rcases Nat.lt_trichotomy t q with hc | hc | hc
  · have := Nat.mul_le_mul_left s (show t + 1 ≤ q by omega)
    rw [Nat.mul_add, Nat.mul_one] at this
    rw [Nat.min_eq_left (by omega)]
    exact SortedIn.congr (h t (by omega)) fun x h1 h2 => hp.2.1 x (.inl (by omega))
  · subst hc
    rw [Nat.min_eq_right (by omega)]
    exact hs
  · have := Nat.mul_le_mul_left s (show q + 1 ≤ t by omega)
    rw [Nat.mul_add, Nat.mul_one] at this
    intro x y h1 h2 h3
    have := Nat.min_le_right (s * t + s) n
    omega
theorem blk_step {s q n : Nat} {d d' : Array α} (h : Blk lt s n (2 * q) d) (hp : PermIn (2 * s * q) (2 * s * q + 2 * s) d d') : Blk lt s n (2 * (q + 1)) d' := by
  intro t ht
  have := Nat.mul_le_mul_left s (show 2 * q + 2 ≤ t by omega)
  rw [Nat.mul_add, ← Nat.mul_assoc, Nat.mul_comm s 2] at this
  exact SortedIn.congr (h t (by omega)) fun x h1 h2 => hp.2.1 x (.inr (by omega))
theorem blk_parts {s q n : Nat} {d : Array α} (h : Blk lt s n (2 * q) d) : SortedIn lt (2 * s * q) (min (2 * s * q + s) n) d ∧ SortedIn lt (2 * s * q + s) (min (2 * s * q + 2 * s) n) d := by
  have h1 := h (2 * q) (Nat.le_refl _)
  have h2 := h (2 * q + 1) (by omega)
  have e1 : s * (2 * q) = 2 * s * q := by rw [← Nat.mul_assoc, Nat.mul_comm s 2]
  have e2 : s * (2 * q + 1) = 2 * s * q + s := by rw [Nat.mul_add, e1, Nat.mul_one]
  rw [e1] at h1
  rw [e2, show 2 * s * q + s + s = 2 * s * q + 2 * s by omega] at h2
  exact ⟨h1, h2⟩

variable {Q : α → α → Prop}
/-- Pairs of different blocks, from x0 on. -/
def Cross (Q : α → α → Prop) (s n x0 : Nat) (d : Array α) : Prop := ∀ x y, x0 ≤ x → x < y → y < n → x / s < y / s → Q d[y]! d[x]!
theorem div_blk {s t x : Nat} (hs : 0 < s) (h1 : s * t ≤ x) (h2 : x < s * t + s) : x / s = t := by
  rw [Nat.div_eq_iff hs]
  rw [Nat.mul_comm t s]
  omega
theorem cross_perm {s t n x0 b : Nat} {d d' : Array α} (hs : 0 < s) (hn : n ≤ d.size) (h : Cross Q s n x0 d) (hx : x0 ≤ s * t) (hb : b ≤ s * t + s) (hbn : b ≤ n) (hp : PermIn (s * t) b d d') : Cross Q s n x0 d' := by
  intro x y h1 h2 h3 h4
  have hin : ∀ z, s * t ≤ z → z < b → z / s = t := fun z a c => div_blk hs a (by omega)
  by_cases cx : s * t ≤ x ∧ x < b
  · have cy : ¬ (s * t ≤ y ∧ y < b) := fun cy => by rw [hin x cx.1 cx.2, hin y cy.1 cy.2] at h4; omega
    rw [hp.2.1 y (by omega)]
    refine permIn_all d d' _ b (fun z => Q d[y]! z) (by omega) hp (fun z h5 h6 => h z y (by omega) (by omega) h3 ?_) x cx.1 cx.2
    rw [hin z h5 h6, ← hin x cx.1 cx.2]; exact h4
  · rw [hp.2.1 x (by omega)]
    by_cases cy : s * t ≤ y ∧ y < b
    · refine permIn_all d d' _ b (fun z => Q z d[x]!) (by omega) hp (fun z h5 h6 => h x z h1 (by omega) (by omega) ?_) y cy.1 cy.2
      rw [hin z h5 h6, ← hin y cy.1 cy.2]; exact h4
    · rw [hp.2.1 y (by omega)]
      exact h x y h1 h2 h3 h4
theorem cross_two {s n : Nat} {d : Array α} (h : Cross Q s n 0 d) : Cross Q (2 * s) n 0 d := fun x y h1 h2 h3 h4 =>
  h x y h1 h2 h3 (by
    rw [Nat.mul_comm, ← Nat.div_div_eq_div_mul, ← Nat.div_div_eq_div_mul] at h4
    rcases Nat.lt_or_ge (x / s) (y / s) with c | c
    · exact c
    · have := Nat.div_le_div_right (c := 2) c
      omega)
theorem cross_far {s n x0 x1 : Nat} {d d' : Array α} (h : Cross Q s n x0 d) (h01 : x0 ≤ x1) (hp : ∀ x, x1 ≤ x → d'[x]! = d[x]!) : Cross Q s n x1 d' := fun x y h1 h2 h3 h4 => by
  rw [hp x h1, hp y (by omega)]
  exact h x y (by omega) h2 h3 h4
theorem cross_across {s q n b : Nat} {d : Array α} (hs : 0 < s) (h : Cross Q s n (2 * s * q) d) (hb : b ≤ 2 * s * q + 2 * s) (hbn : b ≤ n) : Across Q (2 * s * q) (2 * s * q + s) b d := fun x y h1 h2 h3 h4 => by
  have e1 : s * (2 * q) = 2 * s * q := by rw [← Nat.mul_assoc, Nat.mul_comm s 2]
  have e2 : s * (2 * q + 1) = 2 * s * q + s := by rw [Nat.mul_add, e1, Nat.mul_one]
  refine h x y h1 (by omega) (by omega) ?_
  rw [div_blk hs (t := 2 * q) (by omega) (by omega), div_blk hs (t := 2 * q + 1) (by omega) (by omega)]
  omega

def StA (enc : α → List Value) (k : Nat) (w0 : World) (blk off : Nat) (lt : α → α → Bool) (Q : α → α → Prop) (d : Array α) (iv jv : Value) (wr : World) : Prop := ∃ (a q : Nat) (dk : Array α), iv = .int .i64 a ∧ jv = .int .i64 ((a : Int) + 20) ∧ a = 20 * q ∧ a ≤ d.size ∧ dk.size = d.size ∧ PermIn 0 d.size d dk ∧ Bel lt 20 q dk ∧ Cross Q 20 d.size 0 dk ∧ (∀ x, a ≤ x → dk[x]! = d[x]!) ∧ SWK enc k w0 blk off dk wr
def StB (enc : α → List Value) (k : Nat) (w0 : World) (blk off : Nat) (lt : α → α → Bool) (Q : α → α → Prop) (d : Array α) (sv : Value) (wr : World) : Prop := ∃ (s : Nat) (dk : Array α), sv = .int .i64 s ∧ 0 < s ∧ s < 4611686018427387904 + 4611686018427387904 ∧ dk.size = d.size ∧ PermIn 0 d.size d dk ∧ Blk lt s d.size 0 dk ∧ Cross Q s d.size 0 dk ∧ SWK enc k w0 blk off dk wr
def StC (enc : α → List Value) (k : Nat) (w0 : World) (blk off : Nat) (lt : α → α → Bool) (Q : α → α → Prop) (s : Nat) (d : Array α) (iv jv : Value) (wr : World) : Prop := ∃ (a q : Nat) (dk : Array α), iv = .int .i64 a ∧ jv = .int .i64 ((a : Int) + 2 * (s : Int)) ∧ a = 2 * s * q ∧ a ≤ d.size ∧ dk.size = d.size ∧ PermIn 0 d.size d dk ∧ Bel lt (2 * s) q dk ∧ Blk lt s d.size (2 * q) dk ∧ Cross Q (2 * s) d.size 0 dk ∧ Cross Q s d.size a dk ∧ SWK enc k w0 blk off dk wr

set_option maxHeartbeats 8000000 in
theorem stableQ_P (k : Nat) (zE : ∀ w, (Go.sizeOf 50).run Tryz.prog w = .ok k w) (g : Nat) (cb : Array Value) (eg : ∀ args w, (callFunc g args).run Tryz.prog w = .ok (.enter g args) w) (cf : α → α → Int) (blk off cap : Nat) (d0 d : Array α) (w0 w : World)
    (R : RowK enc k w0 blk off d0) (hs : d0.size = d.size) (S : SWK enc k w0 blk off d w) (hC : CmpLays Tryz.prog g cb enc k cf blk off d0.size w0) (hT : Tests Q cf lt) (hQ : Pairs Q 0 0 d.size d) (hS : SWO lt) (hsz : d.size < 4611686018427387904) :
    Calls Tryz.prog 71 #[.slice (some ⟨blk, off, none⟩) d.size cap, .int .i64 d.size, .func (.func g) #[] cb] w fun e w' => e = .returned (.tuple #[]) ∧ Merged enc k w0 blk off lt 0 d.size d w' := by
  have S0 : Aside (SWK enc k w0 blk off d w) := S
  have mixed : Tryz.prog.follows .mixedOrders = true := by kernel_rfl
  have hins : ∀ (a b : Nat) (dk : Array α) (wk : World), dk.size = d.size → SWK enc k w0 blk off dk wk → a ≤ b → b ≤ d.size → Pairs Q a a b dk → Calls Tryz.prog 87 #[.slice (some ⟨blk, off, none⟩) d.size cap, .int .i64 a, .int .i64 b, .func (.func g) #[] cb] wk fun e w' => e = .returned (.tuple #[]) ∧ Merged enc k w0 blk off lt a b dk w' := by
    intro a b dk wk hz hSk hab hb hQk
    have h := insertion_P k zE g cb eg cf blk off cap a b d0 dk w0 wk R (by omega) hSk hC hT hQk hS hab (by omega) (by omega)
    rw [hz] at h
    exact h
  have hmrg : ∀ (a m b : Nat) (dk : Array α) (wk : World), dk.size = d.size → SWK enc k w0 blk off dk wk → a < m → m < b → b ≤ d.size → SortedIn lt a m dk → SortedIn lt m b dk → Across Q a m b dk → Calls Tryz.prog 88 #[.slice (some ⟨blk, off, none⟩) d.size cap, .int .i64 a, .int .i64 m, .int .i64 b, .func (.func g) #[] cb] wk fun e w' => e = .returned (.tuple #[]) ∧ Merged enc k w0 blk off lt a b dk w' := by
    intro a m b dk wk hz hSk ham hmb hb h1 h2 hQk
    have h := symMerge_P k zE g cb eg cf blk off cap d0 w0 R hC hT hS (by omega) (b - a) a m b dk wk (Nat.le_refl _) (by omega) hSk ham hmb (by omega) h1 h2 hQk
    rw [hz] at h
    exact h
  have HINS := Lib.hid hins
  have HMRG := Lib.hid hmrg
  have HS := Lib.hid hs
  have HPQ := Lib.hid hQ
  clear S hC hT hQ hS hs hins hmrg
  go_enter Tryz.func71, Tryz.ntmps71
  go_wp2_with fail
  go_loopw [7, 8] (fun iv jv wr => StA enc k w0 blk off lt Q d iv jv wr) (fun iv jv _ => d.size - (intOf iv).toNat)
  case atStart => exact ⟨0, 0, d, rfl, rfl, rfl, Nat.zero_le _, rfl, permIn_refl _ _ _, fun t ht => absurd ht (Nat.not_lt_zero _), fun x y _ h2 h3 _ => HPQ.out x y (Nat.zero_le _) h2 (Nat.zero_le _) h3, fun x _ => rfl, S0.out⟩
  case round =>
    clear S0
    obtain ⟨a, q, dk, rfl, rfl, haq, han, hz, hp, hbl, hcr, hfar, hSk⟩ := hrel
    have HCR := Lib.hid hcr
    have HFAR := Lib.hid hfar
    have S1 := Lib.hid hSk
    have HP := Lib.hid hp
    have HB := Lib.hid hbl
    have HZ := Lib.hid hz
    have HQ := Lib.hid haq
    clear hSk hp hbl hz haq hcr hfar
    by_cases hlt : a + 20 ≤ d.size
    · have hltz : (a : Int) + 20 ≤ (d.size : Int) := by omega
      have HCALL := Lib.hid (HINS.out a (a + 20) dk wr HZ.out S1.out (by omega) hlt (fun x y h1 h2 h3 h4 => by rw [HFAR.out x h1, HFAR.out y h3]; exact HPQ.out x y (Nat.zero_le _) h2 (Nat.zero_le _) (by omega)))
      rw [show ((a + 20 : Nat) : Int) = (a : Int) + 20 by omega] at HCALL
      go_wp2_with fail
      refine HCALL.out.mono ?_
      rintro e1 w1 ⟨rfl, d1, hSd, hz1, hp1, hs1⟩
      have S2 := Lib.hid hSd
      have HZ1 := Lib.hid hz1
      have HP1 := Lib.hid hp1
      have HS1 := Lib.hid hs1
      clear hSd hz1 hp1 hs1
      go_wp2_with fail
      go_roundw
      case rel =>
        have hq := HQ.out
        have hz := HZ.out
        have h1 := HP1.out
        have h2 := HS1.out
        refine ⟨a + 20, q + 1, d1, by first | rfl | go_num, by first | rfl | go_num | (congr 1; omega), by omega, hlt, by have := HZ1.out; omega, permIn_trans _ _ _ _ _ HP.out (permIn_mono _ _ a (a + 20) 0 d.size (by omega) hlt (by omega) HP1.out), ?_, ?_, fun x hx => by rw [HP1.out.2.1 x (.inr hx), HFAR.out x (by omega)], S2.out⟩
        all_goals
          rw [hq] at h1 h2
        · exact bel_step HB.out h1 h2
        · exact cross_perm (by omega) (by omega) HCR.out (Nat.zero_le _) (Nat.le_refl _) (by omega) h1
      case measure => simp [intOf]; omega
    · have hltz : ¬ (a : Int) + 20 ≤ (d.size : Int) := by omega
      have HCALL := Lib.hid (HINS.out a d.size dk wr HZ.out S1.out han (Nat.le_refl _) (fun x y h1 h2 h3 h4 => by rw [HFAR.out x h1, HFAR.out y h3]; exact HPQ.out x y (Nat.zero_le _) h2 (Nat.zero_le _) h4))
      go_wp2_with fail
      refine HCALL.out.mono ?_
      rintro e1 w1 ⟨rfl, d1, hSd, hz1, hp1, hs1⟩
      have hq := HQ.out
      have hz := HZ.out
      have hbk : Blk lt 20 d.size 0 d1 := by
        rw [hq] at hp1 hs1
        exact bel_end HB.out (by omega) (by omega) hp1 hs1
      have hcr1 : Cross Q 20 d.size 0 d1 := by
        rw [hq] at hp1
        exact cross_perm (by omega) (by omega) HCR.out (Nat.zero_le _) (by omega) (Nat.le_refl _) hp1
      have hpp : PermIn 0 d.size d d1 := permIn_trans _ _ _ _ _ HP.out (permIn_mono _ _ a d.size 0 d.size (by omega) (Nat.le_refl _) (by omega) hp1)
      have hzz : d1.size = d.size := by omega
      have S2 := Lib.hid hSd
      have HBK := Lib.hid hbk
      have HCR1 := Lib.hid hcr1
      have HPP := Lib.hid hpp
      have HZZ := Lib.hid hzz
      clear hSd hz1 hp1 hs1 hbk hcr1 hpp hzz hq hz HCALL S1 HP HB HZ HQ HCR HFAR hlt hltz
      go_wp2_with fail
      go_loopw [6] (fun sv wr => StB enc k w0 blk off lt Q d sv wr) (fun sv _ => d.size - (intOf sv).toNat)
      case atStart => exact ⟨20, d1, rfl, by omega, by omega, HZZ.out, HPP.out, HBK.out, HCR1.out, S2.out⟩
      case round =>
        clear S2 HBK HPP HZZ HCR1
        obtain ⟨s, dk, rfl, hs0, hsb, hz, hp, hbl, hcr, hSk⟩ := hrel
        have HCR := Lib.hid hcr
        have S1 := Lib.hid hSk
        have HP := Lib.hid hp
        have HB := Lib.hid hbl
        have HZ := Lib.hid hz
        clear hSk hp hbl hz hcr
        by_cases hlt : s < d.size
        · have hltz : (s : Int) < (d.size : Int) := by omega
          go_wp2_with fail
          go_loopw [7, 8] (fun iv jv wr => StC enc k w0 blk off lt Q s d iv jv wr) (fun iv jv _ => d.size - (intOf iv).toNat)
          case atStart => exact ⟨0, 0, dk, rfl, by first | rfl | go_num | simp, rfl, Nat.zero_le _, HZ.out, HP.out, fun t ht => absurd ht (Nat.not_lt_zero _), HB.out, cross_two HCR.out, HCR.out, S1.out⟩
          case round =>
            clear S1 HP HB HZ HCR
            obtain ⟨a, q, dk, rfl, rfl, haq, han, hz, hp, hbl, hbk, hcr2, hcr, hSk⟩ := hrel
            have HCR2 := Lib.hid hcr2
            have HCR := Lib.hid hcr
            have S1 := Lib.hid hSk
            have HP := Lib.hid hp
            have HB := Lib.hid hbl
            have HK := Lib.hid hbk
            have HZ := Lib.hid hz
            have HQ := Lib.hid haq
            obtain ⟨g1, g2⟩ := blk_parts hbk
            rw [← haq] at g1 g2
            have G1 := Lib.hid g1
            have G2 := Lib.hid g2
            clear hSk hp hbl hz haq hbk g1 g2 hcr2 hcr
            by_cases hl2 : a + 2 * s ≤ d.size
            · have hl2z : (a : Int) + 2 * (s : Int) ≤ (d.size : Int) := by omega
              have HCALL := Lib.hid (HMRG.out a (a + s) (a + 2 * s) dk wr HZ.out S1.out (by omega) (by omega) hl2 (by have := G1.out; rwa [Nat.min_eq_left (by omega)] at this) (by have := G2.out; rwa [Nat.min_eq_left (by omega)] at this) (by have := HCR.out; rw [HQ.out] at this ⊢; exact cross_across hs0 this (Nat.le_refl _) (by have := HQ.out; omega)))
              rw [show ((a + s : Nat) : Int) = (a : Int) + (s : Int) by omega, show ((a + 2 * s : Nat) : Int) = (a : Int) + 2 * (s : Int) by omega] at HCALL
              go_wp2_with fail
              refine HCALL.out.mono ?_
              rintro e1 w1 ⟨rfl, d1, hSd, hz1, hp1, hs1⟩
              have S2 := Lib.hid hSd
              have HZ1 := Lib.hid hz1
              have HP1 := Lib.hid hp1
              have HS1 := Lib.hid hs1
              clear hSd hz1 hp1 hs1
              go_wp2_with fail
              go_roundw
              case rel =>
                have hq := HQ.out
                have hz := HZ.out
                have h1 := HP1.out
                have h2 := HS1.out
                rw [hq] at h1 h2
                exact ⟨a + 2 * s, q + 1, d1, by first | rfl | go_num, by first | rfl | go_num | (congr 1; omega), by rw [Nat.mul_add, ← hq, Nat.mul_one], hl2, by have := HZ1.out; omega, permIn_trans _ _ _ _ _ HP.out (permIn_mono _ _ a (a + 2 * s) 0 d.size (by omega) hl2 (by omega) HP1.out), bel_step HB.out h1 h2, blk_step HK.out h1, cross_perm (by omega) (by omega) HCR2.out (Nat.zero_le _) (Nat.le_refl _) (by omega) h1, cross_far HCR.out (by omega) (fun x hx => HP1.out.2.1 x (.inr hx)), S2.out⟩
              case measure => simp [intOf]; omega
            · have hl2z : ¬ (a : Int) + 2 * (s : Int) ≤ (d.size : Int) := by omega
              by_cases hl3 : a + s < d.size
              · have hl3z : (a : Int) + (s : Int) < (d.size : Int) := by omega
                have HCALL := Lib.hid (HMRG.out a (a + s) d.size dk wr HZ.out S1.out (by omega) hl3 (Nat.le_refl _) (by have := G1.out; rwa [Nat.min_eq_left (by omega)] at this) (by have := G2.out; rwa [Nat.min_eq_right (by omega)] at this) (by have := HCR.out; rw [HQ.out] at this ⊢; exact cross_across hs0 this (by have := HQ.out; omega) (Nat.le_refl _)))
                rw [show ((a + s : Nat) : Int) = (a : Int) + (s : Int) by omega] at HCALL
                go_wp2_with fail
                refine HCALL.out.mono ?_
                rintro e1 w1 ⟨rfl, d1, hSd, hz1, hp1, hs1⟩
                have S2 := Lib.hid hSd
                have HZ1 := Lib.hid hz1
                have HP1 := Lib.hid hp1
                have HS1 := Lib.hid hs1
                clear hSd hz1 hp1 hs1
                go_wp2_with fail
                go_roundw
                case rel =>
                  have hq := HQ.out
                  have hz := HZ.out
                  have h1 := HP1.out
                  have h2 := HS1.out
                  rw [hq] at h1 h2
                  exact ⟨2 * s, d1, by first | rfl | go_num | (congr 1; omega), by omega, by omega, by have := HZ1.out; omega, permIn_trans _ _ _ _ _ HP.out (permIn_mono _ _ a d.size 0 d.size (by omega) (Nat.le_refl _) (by omega) HP1.out), bel_end HB.out (by omega) (by omega) h1 h2, cross_perm (by omega) (by omega) HCR2.out (Nat.zero_le _) (by omega) (Nat.le_refl _) h1, S2.out⟩
                case measure => simp [intOf]; omega
              · have hl3z : ¬ (a : Int) + (s : Int) < (d.size : Int) := by omega
                go_wp2_with fail
                go_roundw
                case rel =>
                  have hq := HQ.out
                  have hz := HZ.out
                  have h2 := G1.out
                  rw [Nat.min_eq_right (by omega), hq] at h2
                  exact ⟨2 * s, dk, by first | rfl | go_num | (congr 1; omega), by omega, by omega, hz, HP.out, bel_end HB.out (by omega) (by omega) (permIn_refl _ _ _) h2, HCR2.out, S1.out⟩
                case measure => simp [intOf]; omega
        · have hltz : ¬ (s : Int) < (d.size : Int) := by omega
          go_wp2_with fail
          go_end0
          have h := HB.out 0 (Nat.le_refl _)
          rw [Nat.mul_zero, Nat.zero_add, Nat.min_eq_right (by omega)] at h
          exact ⟨rfl, dk, S1.out, HZ.out, HP.out, h⟩
/-- The order that the tests themselves tell. -/
theorem stable_P (k : Nat) (zE : ∀ w, (Go.sizeOf 50).run Tryz.prog w = .ok k w) (g : Nat) (cb : Array Value) (eg : ∀ args w, (callFunc g args).run Tryz.prog w = .ok (.enter g args) w) (cf : α → α → Int) (blk off cap : Nat) (d0 d : Array α) (w0 w : World)
    (R : RowK enc k w0 blk off d0) (hs : d0.size = d.size) (S : SWK enc k w0 blk off d w) (hC : CmpLays Tryz.prog g cb enc k cf blk off d0.size w0) (hS : SWO (ltOf cf)) (hsz : d.size < 4611686018427387904) :
    Calls Tryz.prog 71 #[.slice (some ⟨blk, off, none⟩) d.size cap, .int .i64 d.size, .func (.func g) #[] cb] w fun e w' => e = .returned (.tuple #[]) ∧ Merged enc k w0 blk off (ltOf cf) 0 d.size d w' :=
  stableQ_P (Q := fun _ _ => True) k zE g cb eg cf blk off cap d0 d w0 w R hs S hC ⟨fun p q _ h => by simpa [ltOf] using h, fun p q _ h => by simp [ltOf]; omega⟩ (fun _ _ _ _ _ _ => trivial) hS hsz
end
end Go.Proofs.YtogjcaakfnfapaaGreatDoor
namespace Go.Proofs.YtogjcaakfnfapaaGreatDoor
open Go Go.RowKit
set_option linter.unusedVariables false
set_option linter.unusedSimpArgs false
set_option maxRecDepth 100000
@[go_sem] theorem run_store_float {P : Program} {w : World} {a : Addr} {m : Mode} (b : Nat) : (store a (.float .f64 b) m).run P w = stored P w a (.float .f64 b) m := run_store P w a _ m rfl
theorem step_append_at {P : Program} {w : World} {ops : Array Oper} {o : Oper} {a : Act} {K : Act → World → Prop} {Q : Exit → Act → World → Prop} {E : Prop} (hgd : o.guard = none) (s x : Operand) (t : TypeId)
    (ho : o.op = .call { callee := .builtin .append, args := #[s, x], argTypes := #[t, t] })
    (base : Nat) (e : TypeId) (i : TypeInfo) (z : Value) (size bytes : Nat) (ht : P.underlying t = some (.slice e)) (hi : P.info? e = some i) (hz : i.zero = some z)
    (hsize : i.size = size) (hby : i.bytes = bytes) (hzs : z.cells.size = size) (hsz : 0 < size)
    (v : Value) (n : Nat) (xs : List Value) (hs : a.eval s = v) (hown : w.ownsRow base e size v n xs)
    (ad : Addr) (m c : Nat) (news : List Value) (hx : a.eval x = .slice (some ad) m c)
    (hl : news.length = m * size) (hnews : ∀ j u, news[j]? = some u → w.cell? (ad.add j) = some u) (h1 : ∀ u ∈ news, u.oneCell' = true)
    (h63 : n + m ≤ maxLen) (hbytes : (n + m) * bytes ≤ 140737488355328) (hbase : base ≤ w.heap.size)
    (h : ∀ v' w', w'.ownsRow base e size v' (n + m) (xs ++ news) → w.grownBy w' v.ownBlock → (v'.ownBlock = v.ownBlock ∨ v'.ownBlock = some w.heap.size) → K (a.put o.dst v') w') :
    if Region.wanted o (yielded ops a.tmps) = true then Oper.wp P o a w K Q else E := by
  have hw : Region.wanted o (yielded ops a.tmps) = true := by simp [Region.wanted, hgd]
  rw [if_pos hw]
  obtain ⟨v', w', hr, h2, h3, h4, h5⟩ := run_append_own_at (P := P) w base t o.type e i z size bytes ht hi hz hsize hby hzs hsz v n xs hown ad m c news hl hnews h1 h63 hbytes hbase
  unfold Oper.wp execOp
  simp only [ho, resolve, invoke, builtin, Sem.run_bind, Sem.run_pure, Result.andThen_ok, List.map_toArray, List.map_cons, List.map_nil, hs, hx, hr]
  exact h v' w' h2 h3 h5
theorem Tryz.infoPt : (Tryz.prog.info? 50).map (fun i => (i.zero, i.size, i.bytes)) = some (some (.agg #[.slice none 0 0, .float .f64 0]), 2, 32) := by kernel_rfl
theorem Sl.grown {w w' : World} {g : Option Nat} {lv : Value} {l : List Lb} (h : Sl lenc w lv l) (hne : l ≠ [] → lv.ownBlock ≠ g) (hg : w.grownBy w' g) : Sl lenc w' lv l := by
  obtain ⟨a, cap, rfl, hm, hn, hc⟩ := h
  refine ⟨a, cap, rfl, hm, hn, fun hx => ?_⟩
  obtain ⟨b, off, rfl, hd⟩ := hc hx
  refine ⟨b, off, rfl, fun j u hu => hg.cell (hd j u hu) ?_⟩
  have := hne hx
  simpa [Value.ownBlock] using this
theorem Sl.lt {w : World} {lv : Value} {l : List Lb} (h : Sl lenc w lv l) (hx : l ≠ []) : ∃ b, lv.ownBlock = some b ∧ b < w.heap.size := by
  obtain ⟨a, cap, rfl, hm, hn, hc⟩ := h
  obtain ⟨b, off, rfl, hd⟩ := hc hx
  cases l with
  | nil => exact absurd rfl hx
  | cons x r => exact ⟨b, rfl, World.block_lt_of_cell? w _ (hd 0 (.string x.1) rfl)⟩
theorem below_grownBy' {w w' : World} (hb : Below w.heap.size w w') : w.grownBy w' none := ⟨hb.os, hb.tape, hb.output, hb.size, fun b hk _ => hb.block b hk⟩
/-- A point as it lies, and what its labels read as. -/
abbrev ZPt := Value × Pt
def zenc (z : ZPt) : List Value := [z.1, .float .f64 z.2.2]
theorem zenc_len (z : ZPt) : (zenc z).length = 2 := rfl
/-- A point that can be read, whose labels lie in no block of g's. -/
def ZOk (w : World) (g : Option Nat) (z : ZPt) : Prop := Sl lenc w z.1 z.2.1 ∧ (z.2.1 ≠ [] → z.1.ownBlock ≠ g)
theorem ZOk.grown {w w' : World} {g : Option Nat} {z : ZPt} (h : ZOk w g z) (hg : w.grownBy w' g) : ZOk w' g z := ⟨h.1.grown h.2 hg, h.2⟩
theorem ZOk.below {w w' : World} {B : Nat} {g : Option Nat} {z : ZPt} (h : ZOk w g z) (hb : Below B w w') (hB : w.heap.size ≤ B) : ZOk w' g z := ⟨h.1.below hb hB, h.2⟩
theorem ZOk.fresh {w : World} {g : Option Nat} {z : ZPt} (h : Sl lenc w z.1 z.2.1) (hg : ∀ k, g = some k → w.heap.size ≤ k) : ZOk w g z := ⟨h, fun hx he => by
  obtain ⟨b, e1, e2⟩ := h.lt hx
  have := hg b (by rw [← he, e1])
  omega⟩
/-- A row of the call's own that reads as points. -/
def OV (w : World) (base : Nat) (v : Value) (ps : List Pt) : Prop :=
  ∃ zs : List ZPt, zs.map (·.2) = ps ∧ w.ownsRow base 50 2 v ps.length (zs.flatMap zenc) ∧ ∀ z ∈ zs, ZOk w v.ownBlock z
theorem OV.nil (w : World) (base : Nat) : OV w base (.slice none 0 0) [] := ⟨[], rfl, World.ownsRow_nil _ _ _ _, fun z h => by cases h⟩
theorem OV.kept {w w' : World} {base : Nat} {v : Value} {ps : List Pt} (h : OV w base v ps) (hb : Below w.heap.size w w') : OV w' base v ps := by
  obtain ⟨zs, h1, h2, h3⟩ := h
  exact ⟨zs, h1, h2.kept (below_grownBy' hb) (by cases v.ownBlock with | none => exact .inl rfl | some g => exact .inr (by simp)), fun z hz => (h3 z hz).below hb (Nat.le_refl _)⟩
theorem OV.slice {w : World} {base : Nat} {v : Value} {ps : List Pt} (h : OV w base v ps) : ∃ a cap, v = .slice a ps.length cap ∧ ps.length ≤ cap ∧ cap ≤ 9223372036854775807 := by
  obtain ⟨zs, h1, h2, h3⟩ := h
  rcases h2.2 with ⟨rfl, h0⟩ | ⟨g, cap, cur, rfl, -, -, hle, hcap, -⟩
  · exact ⟨none, 0, by rw [h0], by omega, by omega⟩
  · exact ⟨_, _, rfl, hle, by unfold maxLen at hcap; omega⟩
theorem OV.appended {w w' : World} {base : Nat} {v v' : Value} {ps : List Pt} {zs : List ZPt} {z : ZPt} (h1 : zs.map (·.2) = ps) (h3 : ∀ z ∈ zs, ZOk w v.ownBlock z) (hz : ZOk w v.ownBlock z)
    (ho : w'.ownsRow base 50 2 v' (ps.length + 1) (zs.flatMap zenc ++ zenc z)) (hg : w.grownBy w' v.ownBlock) (hat : v'.ownBlock = v.ownBlock ∨ v'.ownBlock = some w.heap.size) : OV w' base v' (ps ++ [z.2]) := by
  have key : ∀ z, ZOk w v.ownBlock z → ZOk w' v'.ownBlock z := by
    intro z h
    refine ⟨(h.grown hg).1, fun hx he => ?_⟩
    rcases hat with e | e
    · exact h.2 hx (by rw [he, e])
    · obtain ⟨b, e1, e2⟩ := h.1.lt hx
      rw [e1, e] at he
      injection he with he
      omega
  refine ⟨zs ++ [z], by simp [h1], ?_, fun y hy => ?_⟩
  · rw [List.length_append, List.flatMap_append]
    simpa using ho
  · rcases List.mem_append.1 hy with hy | hy
    · exact key y (h3 y hy)
    · rw [List.mem_singleton.1 hy]; exact key z hz
theorem Sl.mapped {α β : Type} {enc : β → List Value} {f : α → β} {w : World} {v : Value} {xs : List α} (h : Sl (fun x => enc (f x)) w v xs) : Sl enc w v (xs.map f) := by
  obtain ⟨a, cap, rfl, hm, hn, hc⟩ := h
  refine ⟨a, cap, by simp, by simpa using hm, fun e => ?_, fun hx => ?_⟩
  · obtain ⟨e1, e2⟩ := hn e; exact ⟨e1, by rw [e2]; rfl⟩
  · obtain ⟨b, off, e, hd⟩ := hc (fun e => hx (by rw [e]; rfl))
    refine ⟨b, off, e, fun j u hu => hd j u ?_⟩
    rw [List.flatMap_map] at hu
    exact hu
theorem vs_of {w : World} {v : Value} {zs : List ZPt} (h : Sl zenc w v zs) (h2 : ∀ z ∈ zs, Sl lenc w z.1 z.2.1) : VS w v (zs.map (·.2)) := by
  refine ⟨zs.map fun z => (z.1, z.2.2), Sl.mapped (enc := penc) (f := fun z : ZPt => (z.1, z.2.2)) h, by simp, fun k h3 h4 => ?_⟩
  have hk : k < zs.length := by simpa using h3
  simp only [List.getElem_map]
  exact ⟨h2 _ (List.getElem_mem hk), trivial⟩
theorem OV.vs {w : World} {base : Nat} {v : Value} {ps : List Pt} (h : OV w base v ps) : VS w v ps := by
  obtain ⟨zs, rfl, h2, h3⟩ := h
  exact vs_of (Sl.own zenc_len (by decide) h2) fun z hz => (h3 z hz).1
set_option maxHeartbeats 2000000 in
theorem pcmp_any (v1 v2 : Value) (b1 b2 : Nat) (l1 l2 : List Lb) (w : World) (h1 : Sl lenc w v1 l1) (h2 : Sl lenc w v2 l2) :
    Calls Tryz.prog 48 #[.agg #[v1, .float .f64 b1], .agg #[v2, .float .f64 b2]] w fun e w' => e = .returned (.int .i64 (cmpL l1 l2)) ∧ Grew w w' := by
  have HC := Lib.hid (fun w' (hb : Below w.heap.size w w') => compare_any v1 v2 l1 l2 w' (h1.below hb (Nat.le_refl _)) (h2.below hb (Nat.le_refl _)))
  obtain ⟨a1, cap1, rfl, -, -⟩ := h1
  obtain ⟨a2, cap2, rfl, -, -⟩ := h2
  obtain ⟨n1, hn1⟩ : ∃ n, n = l1.length := ⟨_, rfl⟩
  obtain ⟨n2, hn2⟩ : ∃ n, n = l2.length := ⟨_, rfl⟩
  rw [← hn1, ← hn2] at HC ⊢
  clear hn1 hn2
  go_enter Tryz.func48, Tryz.ntmps48
  go_wp2_with fail
  refine (HC.out _ (((Below.refl _ _).alloc (Nat.le_refl _) _).alloc (by simp) _)).mono ?_
  rintro e w1 ⟨rfl, hg⟩
  have HG := Lib.hid ((((Grew.refl w).alloc _).alloc _).trans hg)
  clear hg
  go_wp2_with fail
  go_ret
  exact ⟨rfl, HG.out⟩
end Go.Proofs.YtogjcaakfnfapaaGreatDoor
