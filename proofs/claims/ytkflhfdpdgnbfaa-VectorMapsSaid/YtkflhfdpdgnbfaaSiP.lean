/- The library's stable sort at elements of k cells: the blocks, sorted by insertion. -/
import Derived.Test.YtkflhfdpdgnbfaaSsP
namespace Go.Proofs.Ytkflhfdpdgnbfaa
open Go.Shelf Go.RowKit Go.Lib Go.Sort
set_option linter.unusedVariables false
set_option linter.unusedSimpArgs false
set_option maxRecDepth 100000

section
variable {α : Type} [Inhabited α] {enc : α → List Value}
set_option maxHeartbeats 8000000 in
theorem insertion_P (k : Nat) (zE : ∀ w, (Go.sizeOf 35).run Try.prog w = .ok k w) (g : Nat) (cb : Array Value) (eg : ∀ args w, (callFunc g args).run Try.prog w = .ok (.enter g args) w) (cf : α → α → Int) (blk off cap a b : Nat) (d0 d : Array α) (w0 w : World)
    (R : RowK enc k w0 blk off d0) (hs : d0.size = d.size) (S : SWK enc k w0 blk off d w) (hC : CmpLays Try.prog g cb enc k cf blk off d0.size w0) (hS : SWO (ltOf cf)) (hab : a ≤ b) (hb : b ≤ d.size) (hsz : d.size < 4611686018427387904) :
    Calls Try.prog 77 #[.slice (some ⟨blk, off, none⟩) d.size cap, .int .i64 a, .int .i64 b, .func (.func g) #[] cb] w fun e w' => e = .returned (.tuple #[]) ∧ Merged enc k w0 blk off (ltOf cf) a b d w' := by
  have S0 : Aside (SWK enc k w0 blk off d w) := S
  have mixed : Try.prog.follows .mixedOrders = true := by kernel_rfl
  have HC := Lib.hid hC
  have HSW := Lib.hid hS
  have HS := Lib.hid hs
  clear S hC hS hs
  go_enter Try.func77, Try.ntmps77
  go_wp2_with fail
  go_loopg [8] (b - a) (fun g1 vi wr => ∃ (i : Nat) (dk : Array α), vi = .int .i64 i ∧ a < i ∧ i ≤ b + 1 ∧ b + 1 - i ≤ g1 + 1 ∧ dk.size = d.size ∧ Aside (SWK enc k w0 blk off dk wr) ∧ Hid (insOuter (ltOf cf) a b i dk = insOuter (ltOf cf) a b (a + 1) d))
  case atStart => exact ⟨a + 1, d, by go_num, by omega, by omega, by omega, rfl, S0, rfl⟩
  case round =>
    clear S0
    obtain ⟨i, dk, rfl, hai, hib, hg1, hsk, S1, HO⟩ := hrel
    by_cases hlt : i < b
    · have hltz : (i : Int) < (b : Int) := by omega
      go_wp2_with fail
      go_loopg [9] i (fun g2 vj wr2 => ∃ (j : Nat) (dj : Array α), vj = .int .i64 j ∧ a ≤ j ∧ j ≤ i ∧ j ≤ g2 ∧ dj.size = d.size ∧ Aside (SWK enc k w0 blk off dj wr2) ∧ Hid (insInner (ltOf cf) a j dj = insInner (ltOf cf) a i dk))
      case atStart => exact ⟨i, dk, rfl, by omega, Nat.le_refl _, Nat.le_refl _, hsk, S1, rfl⟩
      case round =>
        clear S1
        obtain ⟨j, dj, rfl, haj, hji, hg2, hsj, S1, HI⟩ := hrel
        have out : (j ≤ a ∨ ltOf cf dj[j]! dj[j - 1]! = false) → Hid (insOuter (ltOf cf) a b (i + 1) dj = insOuter (ltOf cf) a b (a + 1) d) := fun hs => by
          show _ = _
          rw [← HO.out, insOuter_go _ _ _ _ _ hlt, ← HI.out, insInner_stop _ _ _ _ hs]
        have OUT : Aside _ := out
        clear out
        by_cases hja : a < j
        · have hjaz : (a : Int) < (j : Int) := by omega
          obtain ⟨jp, rfl⟩ : ∃ jp, j = jp + 1 := ⟨j - 1, by omega⟩
          obtain ⟨xj, hxj⟩ : ∃ x, dj[jp + 1]! = x := ⟨_, rfl⟩
          obtain ⟨xp, hxp⟩ : ∃ x, dj[jp]! = x := ⟨_, rfl⟩
          have hwp : IntKind.i64.wrap (jp : Int) = (jp : Int) := by rw [IntKind.wrap_i64]; omega
          have jz : (jp : Int) + 1 < (d.size : Int) := by omega
          have jz1 : (jp : Int) < (d.size : Int) := by omega
          have hjaz' : (a : Int) < (jp : Int) + 1 := by omega
          have p0 : (0 : Int) ≤ (jp : Int) + 1 := by omega
          have p1 : (0 : Int) ≤ (jp : Int) := by omega
          have e0 : ((jp : Int) + 1).toNat = jp + 1 := by omega
          have e1 : ((jp : Int)).toNat = jp := by omega
          have lj := fun n' os' => S1.out.ld R (hsj.trans HS.out.symm) Try.prog (jp + 1) (by omega) n' os'
          have lp := fun n' os' => S1.out.ld R (hsj.trans HS.out.symm) Try.prog jp (by omega) n' os'
          rw [hxj] at lj
          rw [hxp] at lp
          have hcg := fun n' os' => S1.out.cmp HC.out (hsj.trans HS.out.symm) xj xp n' os'
          have HXJ := Lib.hid hxj
          have HXP := Lib.hid hxp
          clear hxj hxp
          by_cases hlv : cf xj xp < 0
          · go_wp2_with fail
            go_quiet_grown (first | (go_at_fn g; refine Calls.grown_of (hcg _ _)))
            go_wp2_with fail
            have S2 : Aside (SWK enc k w0 blk off dj (grow (wr.drewN nq) osq)) := S1.out.grown nq osq
            have hz0 : dj.size = d0.size := hsj.trans HS.out.symm
            clear lj lp hcg S1
            generalize grow (wr.drewN nq) osq = wq at S2 ⊢
            have S3 : Aside (SWK enc k w0 blk off (swp dj (jp + 1) jp) ((wq.drew.setCells blk (off + (jp + 1) * k) (enc dj[jp]!)).setCells blk (off + jp * k) (enc dj[jp + 1]!))) := S2.out.swapped R (jp + 1) jp (by omega) (by omega)
            have l1 := S2.out.ld1 R hz0 Try.prog jp (by omega)
            have l2 := S2.out.ld1 R hz0 Try.prog (jp + 1) (by omega)
            have s1 := S2.out.st1 R hz0 Try.prog (jp + 1) (by omega) dj[jp]!
            have s2 := S2.out.st2 R hz0 Try.prog (jp + 1) jp (by omega) (by omega) dj[jp]! dj[jp + 1]!
            have n1 : (enc dj[jp]!).length = k := R.hk _
            have n2 : (enc dj[jp + 1]!).length = k := R.hk _
            generalize enc dj[jp]! = cI at S3 l1 s1 s2 n1
            generalize enc dj[jp + 1]! = cJ at S3 l2 s2 n2
            clear S2 hz0
            go_big_region_o
            clear l1 l2 s1 s2
            all_goals generalize (wq.drew.setCells blk (off + (jp + 1) * k) cI).setCells blk (off + jp * k) cJ = w2 at S3 ⊢
            all_goals go_wp2_with fail
            go_roundg jp
            case measure => omega
            case rel =>
              refine ⟨jp, swp dj (jp + 1) jp, by first | rfl | go_num | (congr 1; omega), by omega, by omega, Nat.le_refl _, by rw [size_swp]; exact hsj, S3, (show Hid _ from ?_)⟩
              show _ = _
              have := insInner_go (ltOf cf) a (jp + 1) dj hja (by simp only [Nat.add_sub_cancel]; rw [HXJ.out, HXP.out]; exact decide_eq_true hlv)
              simp only [Nat.add_sub_cancel] at this
              rw [← HI.out, this]
          · go_wp2_with fail
            go_quiet_grown (first | (go_at_fn g; refine Calls.grown_of (hcg _ _)))
            go_wp2_with fail
            go_roundg (b - (i + 1))
            case measure => omega
            case rel => exact ⟨i + 1, dj, by go_num, by omega, by omega, by omega, hsj, S1.out.grown nq osq, OUT.out (Or.inr (by simp only [Nat.add_sub_cancel]; rw [HXJ.out, HXP.out]; exact decide_eq_false (by omega)))⟩
        · have hjaz : decide ((j : Int) > (a : Int)) = false := decide_eq_false (by omega)
          have hjaz' : ¬ (a : Int) < (j : Int) := by omega
          go_wp2_with fail
          go_big_region_o
          all_goals go_wp2_with fail
          go_roundg (b - (i + 1))
          case measure => omega
          case rel => exact ⟨i + 1, dj, by go_num, by omega, by omega, by omega, hsj, S1.out.drew, OUT.out (Or.inl (by omega))⟩
    · have hltz : ¬ (i : Int) < (b : Int) := by omega
      go_wp2_with fail
      go_end0
      have he : dk = insertionSort (ltOf cf) d a b := by unfold Sort.insertionSort; rw [← HO.out, insOuter_stop _ _ _ _ _ hlt]
      obtain ⟨r1, r2⟩ := insertionSort_holds HSW.out d a b hab hb
      rw [← he] at r1 r2
      exact ⟨rfl, dk, S1.out, hsk, r1, r2⟩
end
end Go.Proofs.Ytkflhfdpdgnbfaa
