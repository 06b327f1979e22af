/- Chapter 4's reader: a byte behind a stroke, a byte in brackets. Chapter 4's reader: a class. (Several texts in one file, by merge.py.) -/
import Derived.Test.YtnnfhcbopchodaaDoorZN13
import Derived.Deep.LoopGhost
import Derived.Deep.DeepCutAuto
import Derived.Deep.Cut
import Derived.Deep.CutRange
import Derived.Deep.CutBlock
namespace Go.Proofs.YtnnfhcbopchodaaDoor
open Go Go.RowKit
set_option linter.unusedVariables false
set_option linter.unusedSimpArgs false
set_option maxRecDepth 100000
theorem ramong_qs (c : UInt8) (t : ByteArray) (w : World) (ht : t.size ≤ 1000) : Calls Tryd.prog 90 #[.int .u8 c.toNat, .string t] w fun e w' => e = .returned (.bool (t.data.toList.contains c)) ∧ w = w' := (ramong_any c t w ht).mono fun _ _ h => ⟨h.1, h.2.symm⟩
/-- What becomes of a byte that is read. -/
def BQ (s : ByteArray) (rb d a0 : Nat) (w : World) (L : Option (UInt8 × List UInt8)) (e : Ending) (w' : World) : Prop :=
  ∃ (c : UInt8) (a' : Nat) (er bd : Int), e = .returned (.int .u8 c.toNat) ∧ R4 w' rb s a' d er bd ∧ Kp (· = rb) w w' ∧ a0 ≤ a' ∧ a' ≤ s.size ∧ ((er = 0 ∧ L = some (c, s.data.toList.drop a') ∧ a0 < a') ∨ (er = 2 ∧ L = none))
theorem BQ.err {s : ByteArray} {rb d a0 : Nat} {w w' : World} {L : Option (UInt8 × List UInt8)} (a' : Nat) (bd : Int) (hr : R4 w' rb s a' d 2 bd) (hk : Kp (· = rb) w w') (h1 : a0 ≤ a') (h2 : a' ≤ s.size) (hL : L = none) : BQ s rb d a0 w L (.returned (.int .u8 0)) w' :=
  ⟨0, a', 2, bd, rfl, hr, hk, h1, h2, .inr ⟨rfl, hL⟩⟩
set_option maxHeartbeats 2000000 in
theorem r4esc_any (rb : Nat) (s t : ByteArray) (at' d : Nat) (bad : Int) (w : World) (h : R4 w rb s at' d 0 bad) (hs : s.size ≤ 4096) (ha : at' < s.size) (ht : t.size ≤ 1000) :
    Calls Tryd.prog 77 #[.pointer (some ⟨rb, 0, none⟩), .string t] w fun e w' => BQ s rb d (at' + 1) w (escL t.data.toList (s.data.toList.drop (at' + 1))) e w' := by
  obtain ⟨R, hR⟩ : ∃ R, escL t.data.toList (s.data.toList.drop (at' + 1)) = R := ⟨_, rfl⟩
  rw [hR]
  have HR := Lib.hid h
  have c1 := h.c1
  have f1 := h.fz 1
  clear h
  have hp1 : ((at' : Int) + 1) = ((at' + 1 : Nat) : Int) := by omega
  obtain ⟨p, hp⟩ : ∃ p, p = at' + 1 := ⟨_, rfl⟩
  rw [← hp] at hR hp1
  have HP1 := Lib.hid hp1
  have hap : at' < p := by omega
  have hps : p ≤ s.size := by omega
  clear hp1 hp
  have HK1 := Lib.hid ((Kp.refl (· = rb) w).setCell (p := ⟨rb, 1, none⟩) (.inl rfl) (.int .i64 (p : Int)))
  have HR1 := Lib.hid (HR.out.put1 p)
  by_cases hlt : p < s.size
  · rw [drop_bAt hlt] at hR
    have hg := bAt_get hlt
    have hge : ¬ s.size ≤ p := by omega
    have g1 : decide ((s.size : Int) ≤ (p : Int)) = false := by rw [decide_eq_false_iff_not]; omega
    obtain ⟨c, hc⟩ : ∃ c, bAt s p = c := ⟨_, rfl⟩
    rw [hc] at hR hg
    clear hc
    have HAM := Lib.hid (fun w => ramong_qs c t w ht)
    obtain ⟨b, hb⟩ : ∃ b, t.data.toList.contains c = b := ⟨_, rfl⟩
    replace hR : (if t.data.toList.contains c = true then some (c, s.data.toList.drop (p + 1)) else none) = R := hR
    rw [hb] at hR
    simp only [hb] at HAM
    have HRR := Lib.hid hR
    clear hb hR
    go_enter Tryd.func77, Tryd.ntmps77
    go_wp2_with fail
    simp only [HP1.out]
    generalize w.setCell ⟨rb, 1, none⟩ (.int .i64 (p : Int)) = w1 at HK1 HR1 ⊢
    have c0 := HR1.out.c0
    replace c1 := HR1.out.c1
    replace f1 := HR1.out.fz 1
    cases b with
    | false =>
      go_quiet ((go_at_call 90; first | refine qs (HAM.out _) | refine quiet_same (HAM.out _)))
      go_wp2_with fail
      refine (r4fail_any rb s p d bad 2 _ _ (HR1.out.drewN _)).mono ?_
      rintro e w2 ⟨rfl, hr2, hk2⟩
      have HR2 := Lib.hid hr2
      have HK2 := Lib.hid ((HK1.out.drewN _).trans hk2)
      clear hr2 hk2
      go_wp2_with fail
      go_ret
      exact BQ.err p _ HR2.out HK2.out (by omega) (by omega) (by rw [← HRR.out]; rfl)
    | true =>
      go_quiet ((go_at_call 90; first | refine qs (HAM.out _) | refine quiet_same (HAM.out _)))
      go_wp2_with fail
      go_quiet (fail)
      go_wp2_with fail
      go_ret
      exact ⟨c, p + 1, 0, bad, rfl, (HR1.out.drewN _).put1 (p + 1), (HK1.out.drewN _).setCell (.inl rfl) _, by omega, by omega, .inl ⟨rfl, HRR.out.symm, by omega⟩⟩
  · rw [drop_over (by omega)] at hR
    have HRR := Lib.hid hR
    have hge : s.size ≤ p := by omega
    have g1 : decide ((s.size : Int) ≤ (p : Int)) = true := by rw [decide_eq_true_iff]; omega
    clear hR
    go_enter Tryd.func77, Tryd.ntmps77
    go_wp2_with fail
    simp only [HP1.out]
    generalize w.setCell ⟨rb, 1, none⟩ (.int .i64 (p : Int)) = w1 at HK1 HR1 ⊢
    have c0 := HR1.out.c0
    replace c1 := HR1.out.c1
    replace f1 := HR1.out.fz 1
    go_quiet (fail)
    go_wp2_with fail
    refine (r4fail_any rb s p d bad 2 _ _ (HR1.out.drewN _)).mono ?_
    rintro e w2 ⟨rfl, hr2, hk2⟩
    have HR2 := Lib.hid hr2
    have HK2 := Lib.hid ((HK1.out.drewN _).trans hk2)
    clear hr2 hk2
    go_wp2_with fail
    go_ret
    exact BQ.err p _ HR2.out HK2.out (by omega) (by omega) (by rw [← HRR.out]; rfl)
theorem gu8_lit (c k : UInt8) (n : Int) (h : (k.toNat : Int) = n) : ((c.toNat : Int) == n) = (c == k) := by rw [← h]; exact u8_ieq c k
set_option maxHeartbeats 2000000 in
theorem r4item_any (rb : Nat) (s : ByteArray) (p d : Nat) (bad : Int) (w : World) (h : R4 w rb s p d 0 bad) (hs : s.size ≤ 4096) (hps : p ≤ s.size) :
    Calls Tryd.prog 91 #[.pointer (some ⟨rb, 0, none⟩)] w fun e w' => BQ s rb d p w (itemL (s.data.toList.drop p)) e w' := by
  obtain ⟨R, hR⟩ : ∃ R, itemL (s.data.toList.drop p) = R := ⟨_, rfl⟩
  have hR0 := hR
  rw [hR]
  have HR := Lib.hid h
  have c0 := h.c0
  have c1 := h.c1
  have f1 := h.fz 1
  clear h
  by_cases hlt : p < s.size
  · rw [drop_bAt hlt] at hR
    have hg := bAt_get hlt
    have hge : ¬ s.size ≤ p := by omega
    have g1 : decide ((s.size : Int) ≤ (p : Int)) = false := by rw [decide_eq_false_iff_not]; omega
    obtain ⟨c, hc⟩ : ∃ c, bAt s p = c := ⟨_, rfl⟩
    rw [hc] at hR hg
    clear hc
    have e92 : ((c.toNat : Int) == 92) = (c == 92) := gu8_lit c 92 _ rfl
    have e93 : ((c.toNat : Int) == 93) = (c == 93) := gu8_lit c 93 _ rfl
    have e45 : ((c.toNat : Int) == 45) = (c == 45) := gu8_lit c 45 _ rfl
    have e94 : ((c.toNat : Int) == 94) = (c == 94) := gu8_lit c 94 _ rfl
    unfold itemL at hR
    simp only at hR
    by_cases h92 : c = 92
    · rw [if_pos h92] at hR
      have HRR := Lib.hid hR
      replace e92 : ((c.toNat : Int) == 92) = true := by rw [e92]; simpa using h92
      clear hR hR0 h92 e93 e45 e94
      go_enter Tryd.func91, Tryd.ntmps91
      go_wp2_with fail
      go_quiet (fail)
      go_wp2_with fail
      go_quiet (fail)
      go_wp2_with fail
      refine (r4esc_any rb s ⟨#[93, 91, 92, 45, 94, 46, 40, 41, 124, 42, 43, 63]⟩ p d bad _ (HR.out.drewN _) hs hlt (by decide)).mono ?_
      rintro e w2 ⟨c', a', er, bd, rfl, hr2, hk2, h1, h2, h3⟩
      have HR2 := Lib.hid hr2
      have HK2 := Lib.hid (((Kp.refl (· = rb) w).drewN _).trans hk2)
      have HC2 := Lib.hid h3
      clear hr2 hk2 h3
      go_wp2_with fail
      go_ret
      exact ⟨c', a', er, bd, rfl, HR2.out, HK2.out, by omega, h2, by
        rcases HC2.out with ⟨x, y, z⟩ | ⟨x, y⟩
        · exact .inl ⟨x, HRR.out.symm.trans y, by omega⟩
        · exact .inr ⟨x, HRR.out.symm.trans y⟩⟩
    · rw [if_neg h92] at hR
      replace e92 : ((c.toNat : Int) == 92) = false := by rw [e92]; simpa using h92
      by_cases hx : c = 93 ∨ c = 45 ∨ c = 94
      · rw [if_pos hx] at hR
        have HRR := Lib.hid hR
        have hx2 : ((c.toNat : Int) == 93) = true ∨ (((c.toNat : Int) == 93) = false ∧ ((c.toNat : Int) == 45) = true) ∨ (((c.toNat : Int) == 93) = false ∧ ((c.toNat : Int) == 45) = false ∧ ((c.toNat : Int) == 94) = true) := by
          rcases hx with rfl | rfl | rfl <;> decide
        clear hR hR0 h92 hx e93 e45 e94
        rcases hx2 with x93 | ⟨x93, x45⟩ | ⟨x93, x45, x94⟩
        all_goals
          go_enter Tryd.func91, Tryd.ntmps91
          go_wp2_with fail
          go_quiet (fail)
          go_wp2_with fail
          go_quiet (fail)
          go_wp2_with fail
          refine (r4fail_any rb s p d bad 2 _ _ (HR.out.drewN _)).mono ?_
          rintro e w2 ⟨rfl, hr2, hk2⟩
          have HR2 := Lib.hid hr2
          have HK2 := Lib.hid (((Kp.refl (· = rb) w).drewN _).trans hk2)
          clear hr2 hk2
          go_wp2_with fail
          go_ret
          exact BQ.err p _ HR2.out HK2.out (Nat.le_refl _) hps HRR.out.symm
      · rw [if_neg hx] at hR
        have HRR := Lib.hid hR
        have x93 : ((c.toNat : Int) == 93) = false := by rw [e93, beq_eq_false_iff_ne]; exact fun e => hx (.inl e)
        have x45 : ((c.toNat : Int) == 45) = false := by rw [e45, beq_eq_false_iff_ne]; exact fun e => hx (.inr (.inl e))
        have x94 : ((c.toNat : Int) == 94) = false := by rw [e94, beq_eq_false_iff_ne]; exact fun e => hx (.inr (.inr e))
        clear hR hR0 h92 hx e93 e45 e94
        go_enter Tryd.func91, Tryd.ntmps91
        go_wp2_with fail
        go_quiet (fail)
        go_wp2_with fail
        go_quiet (fail)
        go_wp2_with fail
        go_ret
        exact ⟨c, p + 1, 0, bad, rfl, (HR.out.drewN _).put1 (p + 1), ((Kp.refl (· = rb) w).drewN _).setCell (.inl rfl) _, by omega, by omega, .inl ⟨rfl, HRR.out.symm, by omega⟩⟩
  · rw [drop_over (by omega)] at hR
    have HRR := Lib.hid hR
    have hge : s.size ≤ p := by omega
    have g1 : decide ((s.size : Int) ≤ (p : Int)) = true := by rw [decide_eq_true_iff]; omega
    clear hR hR0
    go_enter Tryd.func91, Tryd.ntmps91
    go_wp2_with fail
    go_quiet (fail)
    go_wp2_with fail
    refine (r4fail_any rb s p d bad 2 _ _ (HR.out.drewN _)).mono ?_
    rintro e w2 ⟨rfl, hr2, hk2⟩
    have HR2 := Lib.hid hr2
    have HK2 := Lib.hid (((Kp.refl (· = rb) w).drewN _).trans hk2)
    clear hr2 hk2
    go_wp2_with fail
    go_ret
    exact BQ.err p _ HR2.out HK2.out (Nat.le_refl _) hps HRR.out.symm
end Go.Proofs.YtnnfhcbopchodaaDoor
namespace Go.Proofs.YtnnfhcbopchodaaDoor
open Go Go.RowKit
set_option linter.unusedVariables false
set_option linter.unusedSimpArgs false
set_option maxRecDepth 100000
theorem qd {P : Program} {f : FuncId} {args : Array Value} {w : World} {a n : Nat} {v : Value} (h : Calls P f args (w.drewN (a + n)) fun e w' => e = .returned v ∧ ∃ m, w' = (w.drewN (a + n)).drewN m) :
    Calls P f args (w.drewN (a + n)) fun e w'' => e = .returned v ∧ ∃ m, w'' = w.drewN (a + m) :=
  h.mono fun _ _ ⟨he, m, hm⟩ => ⟨he, n + m, by rw [hm, World.drewN_drewN, Nat.add_assoc]⟩
theorem qd0 {P : Program} {f : FuncId} {args : Array Value} {w : World} {n : Nat} {v : Value} (h : Calls P f args (w.drewN n) fun e w' => e = .returned v ∧ ∃ m, w' = (w.drewN n).drewN m) :
    Calls P f args (w.drewN n) fun e w'' => e = .returned v ∧ ∃ m, w'' = w.drewN m :=
  h.mono fun _ _ ⟨he, m, hm⟩ => ⟨he, n + m, by rw [hm, World.drewN_drewN]⟩
def fillTo (S : UInt8 → Bool) (a : UInt8) (k : Nat) : UInt8 → Bool := fun y => S y || (decide (a ≤ y) && decide (y.toNat < k))
theorem fillTo_start (S : UInt8 → Bool) (a : UInt8) : fillTo S a a.toNat = S := by
  funext y
  unfold fillTo
  by_cases h : a ≤ y
  · have := UInt8.le_iff_toNat_le.1 h
    rw [decide_eq_false (show ¬ y.toNat < a.toNat by omega)]
    simp
  · rw [decide_eq_false h]; simp
theorem fillTo_step (S : UInt8 → Bool) (a : UInt8) (k : Nat) (hk : a.toNat ≤ k) (h2 : k < 256) : fillTo S a (k + 1) = fun y => if y = UInt8.ofNat k then true else fillTo S a k y := by
  funext y
  unfold fillTo
  by_cases h : y = UInt8.ofNat k
  · have hy : y.toNat = k := by rw [h, UInt8.toNat_ofNat', Nat.mod_eq_of_lt h2]
    rw [if_pos h, decide_eq_true (UInt8.le_iff_toNat_le.2 (by omega)), decide_eq_true (show y.toNat < k + 1 by omega)]
    simp
  · have hne : y.toNat ≠ k := fun e => h (by rw [← e]; simp)
    rw [if_neg h]
    by_cases h3 : y.toNat < k
    · rw [decide_eq_true h3, decide_eq_true (show y.toNat < k + 1 by omega)]
    · rw [decide_eq_false h3, decide_eq_false (show ¬ y.toNat < k + 1 by omega)]
theorem fillTo_end (S : UInt8 → Bool) (a b : UInt8) : fillS S a b = fillTo S a (b.toNat + 1) := by
  funext y
  unfold fillTo fillS
  by_cases h : y ≤ b
  · rw [decide_eq_true h, decide_eq_true (show y.toNat < b.toNat + 1 by have := UInt8.le_iff_toNat_le.1 h; omega)]
  · rw [decide_eq_false h, decide_eq_false (show ¬ y.toNat < b.toNat + 1 from fun h2 => h (UInt8.le_iff_toNat_le.2 (by omega)))]
def flipTo (S : UInt8 → Bool) (k : Nat) : UInt8 → Bool := fun y => if y.toNat < k then !S y else S y
theorem flipTo_start (S : UInt8 → Bool) : flipTo S 0 = S := by funext y; unfold flipTo; rw [if_neg (by omega)]
theorem flipTo_end (S : UInt8 → Bool) : flipTo S 256 = fun y => !S y := by funext y; unfold flipTo; rw [if_pos y.toNat_lt]
theorem flipTo_step (S : UInt8 → Bool) (k : Nat) (h2 : k < 256) : flipTo S (k + 1) = fun y => if y = UInt8.ofNat k then !(flipTo S k (UInt8.ofNat k)) else flipTo S k y := by
  funext y
  unfold flipTo
  have hk : (UInt8.ofNat k).toNat = k := by rw [UInt8.toNat_ofNat', Nat.mod_eq_of_lt h2]
  by_cases h : y = UInt8.ofNat k
  · rw [if_pos h, h, if_pos (by omega), if_neg (by omega)]
  · have hne : y.toNat ≠ k := fun e => h (by rw [← e]; simp)
    rw [if_neg h]
    by_cases h3 : y.toNat < k
    · rw [if_pos h3, if_pos (by omega)]
    · rw [if_neg h3, if_neg (by omega)]
/-- What becomes of a node that is read. -/
def AQ (s : ByteArray) (rb d a0 : Nat) (w : World) (L : Option (RT × List UInt8)) (e : Ending) (w' : World) : Prop :=
  ∃ (v : Value) (t : RT) (a' : Nat) (er bd : Int), e = .returned (.agg (nenc (v, t)).toArray) ∧ R4 w' rb s a' d er bd ∧ Kp (· = rb) w w' ∧ a' + d ≤ s.size + 41 ∧ NdOk (· < w.heap.size) w' v t ∧ ((er = 0 ∧ L = some (t, s.data.toList.drop a') ∧ a' ≤ s.size ∧ a0 ≤ a') ∨ (er ≠ 0 ∧ L = none))
def clR (nt : Bool) (L : Option ((UInt8 → Bool) × List UInt8)) : Option (RT × List UInt8) := L.map fun q => (.node 3 [] (if nt = true then fun y => !q.1 y else q.1), q.2)
theorem clR_none (nt : Bool) : clR nt none = none := rfl
set_option maxHeartbeats 8000000 in
theorem r4class_any (rb : Nat) (s : ByteArray) (p d : Nat) (bad : Int) (w : World) (h : R4 w rb s p d 0 bad) (hs : s.size ≤ 4096) (hlt : p < s.size) (hd : d ≤ 40) :
    Calls Tryd.prog 78 #[.pointer (some ⟨rb, 0, none⟩)] w fun e w' => AQ s rb d (p + 1) w ((classL (s.data.toList.drop (p + 1))).map fun q => (.node 3 [] q.1, q.2)) e w' := by
  obtain ⟨R, hR⟩ : ∃ R, (classL (s.data.toList.drop (p + 1))).map (fun q => (RT.node 3 [] q.1, q.2)) = R := ⟨_, rfl⟩
  rw [hR]
  have HR := Lib.hid h
  have HL := Lib.hid (heap_lt h)
  obtain ⟨n, hn⟩ : ∃ n, w.heap.size = n := ⟨_, rfl⟩
  have HN := Lib.hid hn
  have hne : rb ≠ n ∧ rb ≠ n + 1 ∧ rb < n := by have := HL.out; omega
  have hp1 : ((p : Int) + 1) = ((p + 1 : Nat) : Int) := by omega
  obtain ⟨q, hq⟩ : ∃ q, q = p + 1 := ⟨_, rfl⟩
  rw [← hq] at hR hp1 ⊢
  have HP1 := Lib.hid hp1
  have hqs : q ≤ s.size := by omega
  have HRR := Lib.hid hR
  clear h hn hR hp1 hq
  go_enter Tryd.func78, Tryd.ntmps78
  go_wp2_with (first
    | (refine Tryd.stepAllocNd (n := n) rfl rfl HN.out ?_
       intro W1 p1 z1 k1
       have HA1 := Lib.hid p1
       have HZ1 := Lib.hid z1
       have HR1 := Lib.hid (HR.out.kp k1 (fun h => h))
       have HK1 := Lib.hid k1
       clear p1 z1 k1)
    | (refine Tryd.stepBuildN 3 rfl rfl ?_)
    | (refine Tryd.stepAllocNd (n := n + 1) rfl rfl HZ1.out ?_; intro W2 p2 z2 k2)
    | (refine Tryd.stepStoreNd (z' := zN 3) (.tmp 3) (.tmp 11) (n + 1) rfl rfl rfl rfl p2 rfl ?_
       intro W3 p3 z3 k3
       have HK3 := Lib.hid (((HK1.out.mono (C := (· = rb)) (fun _ _ h => h.elim)).trans (k2.mono (C := (· = rb)) (fun _ _ h => h.elim))).trans_new k3 (fun b hb => .inr (by have := HN.out; omega)))
       have HR3 := Lib.hid ((HR1.out.kp k2 (fun h => h)).kp k3 (by have := HN.out; have := HL.out; omega))
       have HP3 := Lib.hid p3
       have HQ3 := Lib.hid ((HA1.out.kp k2 (fun h => h)).kp k3 (by omega))
       have HZ3 := Lib.hid (show W3.heap.size = n + 2 by omega)
       clear p2 z2 k2 p3 z3 k3
       have c1 := HR3.out.c1
       have f1 := HR3.out.fz 1))
  rw [HP1.out]
  have HR4 := Lib.hid (HR3.out.put1 q)
  have HK4 := Lib.hid (HK3.out.setCell (p := ⟨rb, 1, none⟩) (.inl rfl) (.int .i64 (q : Int)))
  have HP4 := Lib.hid (HP3.out.kp ((Kp.refl (· = rb) W3).setCell (p := ⟨rb, 1, none⟩) (.inl rfl) (.int .i64 (q : Int))) (by have := hne; omega))
  have HQ4 := Lib.hid (HQ3.out.kp ((Kp.refl (· = rb) W3).setCell (p := ⟨rb, 1, none⟩) (.inl rfl) (.int .i64 (q : Int))) (by have := hne; omega))
  have HZ4 := Lib.hid (show n + 2 ≤ (W3.setCell ⟨rb, 1, none⟩ (.int .i64 (q : Int))).heap.size by simp [HZ3.out])
  generalize W3.setCell ⟨rb, 1, none⟩ (.int .i64 (q : Int)) = w4 at HR4 HK4 HP4 HQ4 HZ4 ⊢
  clear c1 f1 HR1 HK1 HA1 HZ1 HR3 HK3 HP3 HQ3 HZ3
  obtain ⟨nt, hnt⟩ : ∃ nt, nt = decide ((s.data.toList.drop q).head? = some 94) := ⟨_, rfl⟩
  have HNT := Lib.hid hnt
  have c0 := HR4.out.c0
  have c1 := HR4.out.c1
  go_cut [4] (fun s4 wx => s4 = .bool nt ∧ ∃ m, wx = w4.drewN m)
  case first =>
    by_cases hq : q < s.size
    · have HM := Lib.hid (show ∀ k, Calls Tryd.prog 49 #[.pointer (some ⟨rb, 0, none⟩)] (w4.drewN k) fun e w' => e = .returned (.bool true) ∧ ∃ n, w' = (w4.drewN k).drewN n from fun k => by
        have := r4more_any rb s q d 0 bad (w4.drewN k) (HR4.out.drewN k) hs (by omega)
        rw [decide_eq_true hq] at this
        exact this)
      have hg := bAt_get hq
      rw [drop_bAt hq] at hnt
      obtain ⟨c, hc⟩ : ∃ c, bAt s q = c := ⟨_, rfl⟩
      rw [hc] at hg hnt
      have e94 : ((c.toNat : Int) == 94) = nt := by
        rw [gu8_lit c 94 94 rfl, hnt, Bool.eq_iff_iff, beq_iff_eq, decide_eq_true_iff]
        simp
      clear hnt hc
      go_quiet ((go_at_call 49; first | refine qd (HM.out _) | refine qd0 (HM.out _)))
      go_wp2_with fail
      go_meet
      exact ⟨rfl, _, rfl⟩
    · have HM := Lib.hid (show ∀ k, Calls Tryd.prog 49 #[.pointer (some ⟨rb, 0, none⟩)] (w4.drewN k) fun e w' => e = .returned (.bool false) ∧ ∃ n, w' = (w4.drewN k).drewN n from fun k => by
        have := r4more_any rb s q d 0 bad (w4.drewN k) (HR4.out.drewN k) hs (by omega)
        rw [decide_eq_false hq] at this
        exact this)
      rw [drop_over (by omega)] at hnt
      have hnt2 : nt = false := by rw [hnt]; rfl
      subst hnt2
      clear hnt
      go_quiet ((go_at_call 49; first | refine qd (HM.out _) | refine qd0 (HM.out _)))
      go_wp2_with fail
      go_meet
      exact ⟨rfl, _, rfl⟩
  case rest =>
    obtain ⟨rfl, m4, rfl⟩ := hcut
    have HR5 := Lib.hid (HR4.out.drewN m4)
    have HK5 := Lib.hid (HK4.out.drewN m4)
    have HP5 := Lib.hid (show NdB (w4.drewN m4) (n + 1) (zN 3) from HP4.out)
    have HQ5 := Lib.hid (show NdB (w4.drewN m4) n (zN 0) from HQ4.out)
    have HZ5 := Lib.hid (show n + 2 ≤ (w4.drewN m4).heap.size from HZ4.out)
    generalize w4.drewN m4 = w5 at HR5 HK5 HP5 HQ5 HZ5 ⊢
    have hall : ∃ (q2 : Nat) (R0 : Option ((UInt8 → Bool) × List UInt8)), q2 = (if nt = true then q + 1 else q) ∧ q2 ≤ s.size ∧ q ≤ q2 ∧ (∃ f, s.size < q2 + f ∧ clsL f true noS (s.data.toList.drop q2) = R0) ∧ clR nt R0 = R := by
      have hr := HRR.out
      have ht := HNT.out
      have hl : (s.data.toList.drop q).length = s.size - q := by rw [List.length_drop]; rfl
      unfold classL at hr
      cases nt with
      | true =>
        have h94 : (s.data.toList.drop q).head? = some 94 := of_decide_eq_true ht.symm
        have hqq : q < s.size := by
          rcases Nat.lt_or_ge q s.size with h | h
          · exact h
          · rw [drop_over h] at h94; cases h94
        rw [if_pos h94, List.drop_drop] at hr
        refine ⟨q + 1, _, rfl, by omega, by omega, ⟨(s.data.toList.drop q).length + 1, by omega, rfl⟩, ?_⟩
        rw [← hr]
        unfold clR
        rw [Option.map_map]
        rfl
      | false =>
        have h94 : ¬ (s.data.toList.drop q).head? = some 94 := of_decide_eq_false ht.symm
        rw [if_neg h94] at hr
        refine ⟨q, _, rfl, by omega, by omega, ⟨(s.data.toList.drop q).length + 1, by omega, rfl⟩, ?_⟩
        rw [← hr]
        rfl
    obtain ⟨q2, R0, hq2, hq2s, hqq2, hf0, hRc⟩ := hall
    have HF0 := Lib.hid hf0
    have HRC := Lib.hid hRc
    have HQ2 := Lib.hid hq2
    clear hf0 hRc hq2 c0 c1 HRR HR4 HK4 HP4 HQ4 HZ4 hnt
    go_upto_if 33 with fail
    go_cut [4] (fun s4 wx => s4 = .bool nt ∧ R4 wx rb s q2 d 0 bad ∧ Kp (· = rb) w wx ∧ NdB wx (n + 1) (zN 3) ∧ NdB wx n (zN 0) ∧ n + 2 ≤ wx.heap.size)
    case first =>
      cases nt with
      | false =>
        have hq2 := HQ2.out
        simp only [Bool.false_eq_true, if_false] at hq2
        subst hq2
        go_wp2_with fail
        go_meet
        exact ⟨rfl, HR5.out, HK5.out, HP5.out, HQ5.out, HZ5.out⟩
      | true =>
        have hq2 := HQ2.out
        simp only [if_true] at hq2
        subst hq2
        have c1 := HR5.out.c1
        have f1 := HR5.out.fz 1
        go_wp2_with fail
        go_meet
        exact ⟨rfl, HR5.out.put1 (q + 1), HK5.out.setCell (.inl rfl) _, HP5.out.kp ((Kp.refl (· = rb) w5).setCell (p := ⟨rb, 1, none⟩) (.inl rfl) _) (by have := hne; omega), HQ5.out.kp ((Kp.refl (· = rb) w5).setCell (p := ⟨rb, 1, none⟩) (.inl rfl) _) (by have := hne; omega), by simpa [World.setCell] using HZ5.out⟩
    case rest =>
      obtain ⟨rfl, hr6, hk6, hp6, hq6, hz6⟩ := hcut
      have HR6 := Lib.hid hr6
      have HK6 := Lib.hid hk6
      have HP6 := Lib.hid hp6
      have HQ6 := Lib.hid hq6
      have HZ6 := Lib.hid hz6
      clear hr6 hk6 hp6 hq6 hz6 HR5 HK5 HP5 HQ5 HZ5
      go_wp2_with fail
      go_loopg [5] (s.size + 3) (fun gk fv wr => ∃ (fst : Bool) (ai : Nat) (er bd : Int) (S : UInt8 → Bool), fv = .bool fst ∧ R4 wr rb s ai d er bd ∧ q2 ≤ ai ∧ ai ≤ s.size ∧ Kp (· = rb) w wr ∧ NdB wr (n + 1) (.slice none 0 0, .node 3 [] S) ∧ NdB wr n (zN 0) ∧ n + 2 ≤ wr.heap.size ∧ ((er = 0 ∧ s.size + 2 ≤ ai + gk ∧ ∃ f, s.size < ai + f ∧ clsL f fst S (s.data.toList.drop ai) = R0) ∨ (er = 2 ∧ fst = false ∧ 1 ≤ gk ∧ R0 = none)))
      case atStart => exact ⟨true, q2, 0, bad, noS, rfl, HR6.out, Nat.le_refl _, hq2s, HK6.out, HP6.out, HQ6.out, HZ6.out, .inl ⟨rfl, by omega, HF0.out⟩⟩
      case round =>
        obtain ⟨fst, ai, er, bd, S, rfl, hr, hai, has, hk, hp, hq, hz, hcase⟩ := hrel
        have HRW := Lib.hid hr
        have HKW := Lib.hid hk
        have HPW := Lib.hid hp
        have HQW := Lib.hid hq
        have HZW := Lib.hid hz
        have HCW := Lib.hid hcase
        clear hr hk hp hq hz hcase HR6 HK6 HP6 HQ6 HZ6 HF0
        obtain ⟨gob, hgob⟩ : ∃ gob, gob = decide (er = 0 ∧ ¬ (fst = false ∧ (s.data.toList.drop ai).head? = some 93)) := ⟨_, rfl⟩
        have HGOB := Lib.hid hgob
        have c0 := HRW.out.c0
        have c1 := HRW.out.c1
        have c3 := HRW.out.c3
        go_upto_region 7 with fail
        go_cut [72] (fun s72 wx => s72 = .bool gob ∧ ∃ m, wx = wr.drewN m)
        case first =>
          have her : er = 0 ∨ er = 2 := by
            rcases HCW.out with h | h
            · exact .inl h.1
            · exact .inr h.1
          rcases her with rfl | rfl
          · cases fst with
            | true =>
              have hb : gob = true := by rw [hgob]; simp
              subst hb
              clear hgob
              go_quiet (fail)
              go_wp2_with fail
              go_meet
              exact ⟨rfl, _, rfl⟩
            | false =>
              by_cases hlt2 : ai < s.size
              · have hg := bAt_get hlt2
                rw [drop_bAt hlt2] at hgob
                obtain ⟨c, hc⟩ : ∃ c, bAt s ai = c := ⟨_, rfl⟩
                rw [hc] at hg hgob
                have e93 : ((c.toNat : Int) != 93) = gob := by
                  unfold bne
                  rw [gu8_lit c 93 93 rfl, hgob, Bool.eq_iff_iff, Bool.not_eq_true', beq_eq_false_iff_ne, decide_eq_true_iff]
                  simp
                have hge : ¬ s.size ≤ ai := by omega
                have g1 : decide ((s.size : Int) ≤ (ai : Int)) = false := by rw [decide_eq_false_iff_not]; omega
                clear hgob hc
                go_quiet (fail)
                go_wp2_with fail
                go_meet
                exact ⟨rfl, _, rfl⟩
              · rw [drop_over (by omega)] at hgob
                have hb : gob = true := by rw [hgob]; simp
                subst hb
                have hge : s.size ≤ ai := by omega
                have g1 : decide ((s.size : Int) ≤ (ai : Int)) = true := by rw [decide_eq_true_iff]; omega
                clear hgob
                go_quiet (fail)
                go_wp2_with fail
                go_meet
                exact ⟨rfl, _, rfl⟩
          · have hb : gob = false := by rw [hgob]; simp
            subst hb
            clear hgob
            go_quiet (fail)
            go_wp2_with fail
            go_meet
            exact ⟨rfl, _, rfl⟩
        case rest =>
          obtain ⟨rfl, m7, rfl⟩ := hcut
          have HR7 := Lib.hid (HRW.out.drewN m7)
          have HK7 := Lib.hid (HKW.out.drewN m7)
          have HP7 := Lib.hid (show NdB (wr.drewN m7) (n + 1) (.slice none 0 0, .node 3 [] S) from HPW.out)
          have HQ7 := Lib.hid (show NdB (wr.drewN m7) n (zN 0) from HQW.out)
          have HZ7 := Lib.hid (show n + 2 ≤ (wr.drewN m7).heap.size from HZW.out)
          generalize wr.drewN m7 = w7 at HR7 HK7 HP7 HQ7 HZ7 ⊢
          clear c0 c1 c3 HRW HKW HPW HQW HZW hgob
          cases gob with
          | false =>
            have hend : (er = 0 ∧ ai < s.size ∧ R0 = some (S, s.data.toList.drop (ai + 1))) ∨ (er = 2 ∧ R0 = none) := by
              rcases HCW.out with ⟨rfl, -, f, hf, hv⟩ | ⟨rfl, -, -, h⟩
              · have hx := of_decide_eq_false HGOB.out.symm
                have hx2 : fst = false ∧ (s.data.toList.drop ai).head? = some 93 := Decidable.not_not.1 (fun h => hx ⟨rfl, h⟩)
                have hlt2 : ai < s.size := by
                  rcases Nat.lt_or_ge ai s.size with h | h
                  · exact h
                  · rw [drop_over h] at hx2; cases hx2.2
                obtain ⟨f, rfl⟩ : ∃ k, f = k + 1 := ⟨f - 1, by omega⟩
                unfold clsL at hv
                rw [if_pos hx2, List.drop_drop] at hv
                exact .inl ⟨rfl, hlt2, hv.symm⟩
              · exact .inr ⟨rfl, h⟩
            have HE := Lib.hid hend
            clear hend HCW HGOB
            have c1 := HR7.out.c1
            have f1 := HR7.out.fz 1
            cases nt with
            | false =>
              go_wp2_with (first
                | (refine Tryd.stepLoadNd (z := (.slice none 0 0, .node 3 [] S)) (.tmp 3) (n + 1) rfl rfl rfl (HP7.out.kp ((Kp.refl (· = rb) w7).setCell (p := ⟨rb, 1, none⟩) (.inl rfl) (.int .i64 ((ai : Int) + 1))) (by have := hne; omega)) ?_)
                | (refine Tryd.stepStoreNd (z := zN 0) (z' := (.slice none 0 0, .node 3 [] S)) (.tmp 2) (.tmp 147) n rfl rfl rfl rfl (HQ7.out.kp ((Kp.refl (· = rb) w7).setCell (p := ⟨rb, 1, none⟩) (.inl rfl) (.int .i64 ((ai : Int) + 1))) (by have := hne; omega)) rfl ?_
                   intro W9 p9 z9 k9))
              refine bodyPost_ret (Tryd.resultNd rfl rfl p9) rfl ⟨.slice none 0 0, .node 3 [] S, ai + 1, er, bd, rfl, (HR7.out.put1 (ai + 1)).kp k9 (by have := hne; omega), (HK7.out.setCell (p := ⟨rb, 1, none⟩) (.inl rfl) _).trans_new k9 (fun b hb => .inr (by have := HN.out; omega)), by omega, NdOk.nil _ _, ?_⟩
              rcases HE.out with ⟨h1, h2, h3⟩ | ⟨h1, h2⟩
              · exact .inl ⟨h1, by rw [← HRC.out, h3]; rfl, by omega, by omega⟩
              · exact .inr ⟨by omega, by rw [← HRC.out, h2]; rfl⟩
            | true =>
              go_wp2_with fail
              go_loopw [10] (fun x wx => ∃ k : Nat, x = .int .i64 k ∧ k ≤ 256 ∧ R4 wx rb s (ai + 1) d er bd ∧ Kp (· = rb) w wx ∧ NdB wx (n + 1) (.slice none 0 0, .node 3 [] (flipTo S k)) ∧ NdB wx n (zN 0) ∧ n + 2 ≤ wx.heap.size) (fun x _ => 300 - (intOf x).toNat)
              case atStart => exact ⟨0, rfl, by omega, HR7.out.put1 (ai + 1), HK7.out.setCell (.inl rfl) _, by rw [flipTo_start]; exact HP7.out.kp ((Kp.refl (· = rb) w7).setCell (p := ⟨rb, 1, none⟩) (.inl rfl) (.int .i64 ((ai : Int) + 1))) (by have := hne; omega), HQ7.out.kp ((Kp.refl (· = rb) w7).setCell (p := ⟨rb, 1, none⟩) (.inl rfl) (.int .i64 ((ai : Int) + 1))) (by have := hne; omega), by simpa [World.setCell] using HZ7.out⟩
              case round =>
                obtain ⟨k, rfl, hk2, hr4, hk4, hp4, hb4, hz4⟩ := hrel
                have HR8 := Lib.hid hr4
                have HK8 := Lib.hid hk4
                have HB8 := Lib.hid hb4
                have HP8 := Lib.hid hp4
                have HZ8 := Lib.hid hz4
                clear hr4 hk4 hb4 hp4 hz4 c1 f1
                by_cases hlt3 : k < 256
                · have cc := HP8.out.cs k hlt3
                  have cf := HP8.out.fz (2 + k)
                  go_wp2_with fail
                  go_roundw
                  case rel =>
                    refine ⟨k + 1, by go_num, by omega, HR8.out.kp ((Kp.refl (· = n + 1) _).setCell (p := ⟨n + 1, 2 + k, none⟩) (.inl rfl) _) (by have := hne; omega), HK8.out.setCell (p := ⟨n + 1, 2 + k, none⟩) (.inr (by show _ ≤ n + 1; have := HN.out; omega)) _, ?_, HB8.out.kp ((Kp.refl (· = n + 1) _).setCell (p := ⟨n + 1, 2 + k, none⟩) (.inl rfl) _) (by omega), ?_⟩
                    · have := HP8.out.putSet (UInt8.ofNat k) (!(flipTo S k (UInt8.ofNat k)))
                      rw [UInt8.toNat_ofNat', Nat.mod_eq_of_lt hlt3] at this
                      rw [flipTo_step S k hlt3]
                      exact this
                    · simpa [World.setCell] using HZ8.out
                  case measure => simp [intOf]; omega
                · obtain rfl : k = 256 := by omega
                  go_wp2_with (first
                    | (refine Tryd.stepLoadNd (z := (.slice none 0 0, .node 3 [] (flipTo S 256))) (.tmp 3) (n + 1) rfl rfl rfl HP8.out ?_)
                    | (refine Tryd.stepStoreNd (z := zN 0) (z' := (.slice none 0 0, .node 3 [] (flipTo S 256))) (.tmp 2) (.tmp 147) n rfl rfl rfl rfl HB8.out rfl ?_
                       intro W9 p9 z9 k9))
                  refine bodyPost_ret (Tryd.resultNd rfl rfl p9) rfl ⟨.slice none 0 0, .node 3 [] (flipTo S 256), ai + 1, er, bd, rfl, HR8.out.kp k9 (by have := hne; omega), HK8.out.trans_new k9 (fun b hb => .inr (by have := HN.out; omega)), by omega, NdOk.nil _ _, ?_⟩
                  rcases HE.out with ⟨h1, h2, h3⟩ | ⟨h1, h2⟩
                  · exact .inl ⟨h1, by rw [← HRC.out, h3, flipTo_end]; rfl, by omega, by omega⟩
                  · exact .inr ⟨by omega, by rw [← HRC.out, h2]; rfl⟩
          | true =>
            have h0 := of_decide_eq_true HGOB.out.symm
            have hbody : ∃ f, er = 0 ∧ s.size + 2 ≤ ai + gk ∧ s.size < ai + (f + 1) ∧ (match itemL (s.data.toList.drop ai) with
                | none => none
                | some (a, l1) => if l1.head? = some 45 then (match itemL (l1.drop 1) with
                    | none => none
                    | some (b, l3) => if b < a then none else clsL f false (fillS S a b) l3)
                  else clsL f false (fillS S a a) l1) = R0 := by
              rcases HCW.out with ⟨rfl, hgk, f, hf, hv⟩ | ⟨rfl, -, -, h⟩
              · obtain ⟨f, rfl⟩ : ∃ k, f = k + 1 := ⟨f - 1, by omega⟩
                unfold clsL at hv
                rw [if_neg h0.2] at hv
                exact ⟨f, rfl, hgk, hf, hv⟩
              · exact absurd h0.1 (by decide)
            obtain ⟨f, rfl, hgk, hf, hv⟩ := hbody
            have HV := Lib.hid hv
            clear h0 hv HCW HGOB
            have HIT := Lib.hid (r4item_any rb s ai d bd w7 HR7.out hs has)
            obtain ⟨I1, hI1⟩ : ∃ I1, I1 = itemL (s.data.toList.drop ai) := ⟨_, rfl⟩
            rw [← hI1] at HIT HV
            clear hI1
            go_wp2_with fail
            refine HIT.out.mono ?_
            rintro e w8 ⟨c1', a1, e1, bd1, rfl, hr8, hk8, ha1, ha1s, hc1⟩
            have HR8 := Lib.hid hr8
            have HK8 := Lib.hid (HK7.out.trans hk8)
            have HP8 := Lib.hid (HP7.out.kp hk8 (by have := hne; omega))
            have HQ8 := Lib.hid (HQ7.out.kp hk8 (by have := hne; omega))
            have HZ8 := Lib.hid (show n + 2 ≤ w8.heap.size by have := HZ7.out; have := hk8.size; omega)
            have HC8 := Lib.hid hc1
            clear hr8 hk8 hc1 HR7 HK7 HP7 HQ7 HZ7 HIT
            go_upto_region 11 with fail
            obtain ⟨da, hda⟩ : ∃ da, da = decide (e1 = 0 ∧ (s.data.toList.drop a1).head? = some 45) := ⟨_, rfl⟩
            have HDA := Lib.hid hda
            have c0 := HR8.out.c0
            have c1 := HR8.out.c1
            go_cut [89] (fun s89 wx => s89 = .bool da ∧ ∃ m, wx = w8.drewN m)
            case first =>
              have he1 : e1 = 0 ∨ e1 = 2 := by
                rcases HC8.out with h | h
                · exact .inl h.1
                · exact .inr h.1
              by_cases hgo : e1 = 0 ∧ a1 < s.size
              · obtain ⟨rfl, hlt3⟩ := hgo
                have HM := Lib.hid (show ∀ k, Calls Tryd.prog 49 #[.pointer (some ⟨rb, 0, none⟩)] (w8.drewN k) fun e w' => e = .returned (.bool true) ∧ ∃ n, w' = (w8.drewN k).drewN n from fun k => by
                  have := r4more_any rb s a1 d 0 bd1 (w8.drewN k) (HR8.out.drewN k) hs (by omega)
                  rw [decide_eq_true hlt3] at this
                  exact this)
                have hg := bAt_get hlt3
                rw [drop_bAt hlt3] at hda
                obtain ⟨c, hc⟩ : ∃ c, bAt s a1 = c := ⟨_, rfl⟩
                rw [hc] at hg hda
                have e45 : ((c.toNat : Int) == 45) = da := by
                  rw [gu8_lit c 45 45 rfl, hda, Bool.eq_iff_iff, beq_iff_eq, decide_eq_true_iff]
                  simp
                clear hda hc he1
                go_quiet ((go_at_call 49; first | refine qd (HM.out _) | refine qd0 (HM.out _)))
                go_wp2_with fail
                go_meet
                exact ⟨rfl, _, rfl⟩
              · have hb : da = false := by
                  rw [hda, decide_eq_false_iff_not]
                  rintro ⟨h1, h2⟩
                  refine hgo ⟨h1, ?_⟩
                  rcases Nat.lt_or_ge a1 s.size with h | h
                  · exact h
                  · rw [drop_over h] at h2; cases h2
                have HM := Lib.hid (show ∀ k, Calls Tryd.prog 49 #[.pointer (some ⟨rb, 0, none⟩)] (w8.drewN k) fun e w' => e = .returned (.bool false) ∧ ∃ n, w' = (w8.drewN k).drewN n from fun k => by
                  have := r4more_any rb s a1 d e1 bd1 (w8.drewN k) (HR8.out.drewN k) hs (by omega)
                  rw [show (e1 == 0 && decide (a1 < s.size)) = false by
                    rcases he1 with rfl | rfl
                    · rw [decide_eq_false (fun h => hgo ⟨rfl, h⟩)]; rfl
                    · rfl] at this
                  exact this)
                subst hb
                clear hda he1 hgo
                go_quiet ((go_at_call 49; first | refine qd (HM.out _) | refine qd0 (HM.out _)))
                go_wp2_with fail
                go_meet
                exact ⟨rfl, _, rfl⟩
            case rest =>
              obtain ⟨rfl, m9, rfl⟩ := hcut
              have HR9 := Lib.hid (HR8.out.drewN m9)
              have HK9 := Lib.hid (HK8.out.drewN m9)
              have HP9 := Lib.hid (show NdB (w8.drewN m9) (n + 1) (.slice none 0 0, .node 3 [] S) from HP8.out)
              have HQ9 := Lib.hid (show NdB (w8.drewN m9) n (zN 0) from HQ8.out)
              have HZ9 := Lib.hid (show n + 2 ≤ (w8.drewN m9).heap.size from HZ8.out)
              generalize w8.drewN m9 = w9 at HR9 HK9 HP9 HQ9 HZ9 ⊢
              clear c0 c1 HR8 HK8 HP8 HQ8 HZ8 hda
              go_upto_if 89 with fail
              go_cut [7] (fun s7 wx => ∃ (b : UInt8) (a2 : Nat) (e2 bd2 : Int), s7 = .int .u8 b.toNat ∧ R4 wx rb s a2 d e2 bd2 ∧ Kp (· = rb) w wx ∧ NdB wx (n + 1) (.slice none 0 0, .node 3 [] S) ∧ NdB wx n (zN 0) ∧ n + 2 ≤ wx.heap.size ∧ ai ≤ a2 ∧ a2 ≤ s.size ∧ ((e2 = 0 ∧ ai < a2 ∧ c1' ≤ b ∧ clsL f false (fillS S c1' b) (s.data.toList.drop a2) = R0) ∨ (e2 = 2 ∧ R0 = none)))
              case first =>
                cases da with
                | false =>
                  go_wp2_with fail
                  go_meet
                  refine ⟨c1', a1, e1, bd1, rfl, HR9.out, HK9.out, HP9.out, HQ9.out, HZ9.out, ha1, ha1s, ?_⟩
                  have hx := of_decide_eq_false HDA.out.symm
                  have hv := HV.out
                  rcases HC8.out with ⟨h1, h2, h3⟩ | ⟨h1, h2⟩
                  · rw [h2] at hv
                    simp only at hv
                    rw [if_neg (fun h => hx ⟨h1, h⟩)] at hv
                    exact .inl ⟨h1, h3, UInt8.le_refl _, hv⟩
                  · rw [h2] at hv
                    exact .inr ⟨h1, hv.symm⟩
                | true =>
                  have hx := of_decide_eq_true HDA.out.symm
                  have hlt4 : a1 < s.size := by
                    rcases Nat.lt_or_ge a1 s.size with h | h
                    · exact h
                    · rw [drop_over h] at hx; cases hx.2
                  have hv2 : (match itemL (s.data.toList.drop (a1 + 1)) with
                      | none => none
                      | some (b, l3) => if b < c1' then none else clsL f false (fillS S c1' b) l3) = R0 := by
                    have hv := HV.out
                    rcases HC8.out with ⟨h1, h2, h3⟩ | ⟨h1, h2⟩
                    · rw [h2] at hv
                      simp only at hv
                      rw [if_pos hx.2, List.drop_drop] at hv
                      exact hv
                    · rw [hx.1] at h1; cases h1
                  obtain ⟨rfl, -⟩ := hx
                  have HV2 := Lib.hid hv2
                  have hp1 : ((a1 : Int) + 1) = ((a1 + 1 : Nat) : Int) := by omega
                  obtain ⟨q3, hq3⟩ : ∃ q3, q3 = a1 + 1 := ⟨_, rfl⟩
                  rw [← hq3] at hp1 HV2
                  have HP3 := Lib.hid hp1
                  have hq3s : q3 ≤ s.size := by omega
                  have hq3a : a1 < q3 := by omega
                  clear hp1 hq3 hv2 HV HC8 HDA
                  have c1 := HR9.out.c1
                  have f1 := HR9.out.fz 1
                  have HRA := Lib.hid (HR9.out.put1 q3)
                  have HKA := Lib.hid (HK9.out.setCell (p := ⟨rb, 1, none⟩) (.inl rfl) (.int .i64 (q3 : Int)))
                  have HPA := Lib.hid (HP9.out.kp ((Kp.refl (· = rb) w9).setCell (p := ⟨rb, 1, none⟩) (.inl rfl) (.int .i64 (q3 : Int))) (by have := hne; omega))
                  have HQA := Lib.hid (HQ9.out.kp ((Kp.refl (· = rb) w9).setCell (p := ⟨rb, 1, none⟩) (.inl rfl) (.int .i64 (q3 : Int))) (by have := hne; omega))
                  have HZA := Lib.hid (show n + 2 ≤ (w9.setCell ⟨rb, 1, none⟩ (.int .i64 (q3 : Int))).heap.size by simpa [World.setCell] using HZ9.out)
                  go_upto_region 13 with fail
                  rw [HP3.out]
                  generalize w9.setCell ⟨rb, 1, none⟩ (.int .i64 (q3 : Int)) = wA at HRA HKA HPA HQA HZA ⊢
                  clear HR9 HK9 HP9 HQ9 HZ9
                  replace c1 := HRA.out.c1
                  replace f1 := HRA.out.fz 1
                  have HIT := Lib.hid (r4item_any rb s q3 d bd1 wA HRA.out hs hq3s)
                  obtain ⟨I2, hI2⟩ : ∃ I2, I2 = itemL (s.data.toList.drop q3) := ⟨_, rfl⟩
                  rw [← hI2] at HIT HV2
                  clear hI2
                  go_wp2_with fail
                  refine HIT.out.mono ?_
                  rintro e wB ⟨b2, a2, e2, bd2, rfl, hr10, hk10, ha2, ha2s, hc2⟩
                  have HRB := Lib.hid hr10
                  have HKB := Lib.hid (HKA.out.trans hk10)
                  have HPB := Lib.hid (HPA.out.kp hk10 (by have := hne; omega))
                  have HQB := Lib.hid (HQA.out.kp hk10 (by have := hne; omega))
                  have HZB := Lib.hid (show n + 2 ≤ wB.heap.size by have := HZA.out; have := hk10.size; omega)
                  have HCB := Lib.hid hc2
                  clear hr10 hk10 hc2 HRA HKA HPA HQA HZA HIT c1 f1
                  have c3 := HRB.out.c3
                  have he2 : e2 = 0 ∨ e2 = 2 := by
                    rcases HCB.out with h | h
                    · exact .inl h.1
                    · exact .inr h.1
                  rcases he2 with rfl | rfl
                  · have hok : I2 = some (b2, s.data.toList.drop a2) ∧ q3 < a2 := by
                      rcases HCB.out with h | h
                      · exact h.2
                      · exact absurd h.1 (by decide)
                    have hv3 := HV2.out
                    rw [hok.1] at hv3
                    simp only at hv3
                    obtain ⟨-, hqa⟩ := hok
                    clear HCB HV2
                    by_cases hlt5 : b2 < c1'
                    · rw [if_pos hlt5] at hv3
                      have HV3 := Lib.hid hv3
                      have hltp : decide ((b2.toNat : Int) < (c1'.toNat : Int)) = true := by rw [decide_eq_true_iff]; have := UInt8.lt_iff_toNat_lt.1 hlt5; omega
                      have hltn : decide (b2.toNat < c1'.toNat) = true := by rw [decide_eq_true_iff]; exact UInt8.lt_iff_toNat_lt.1 hlt5
                      clear hv3 hlt5
                      go_wp2_with fail
                      refine (r4fail_any rb s a2 d bd2 2 _ _ HRB.out).mono ?_
                      rintro e wC ⟨rfl, hr11, hk11⟩
                      go_wp2_with fail
                      go_meet
                      exact ⟨b2, a2, 2, _, rfl, hr11, HKB.out.trans hk11, HPB.out.kp hk11 (by have := hne; omega), HQB.out.kp hk11 (by have := hne; omega), (by have := HZB.out; have := hk11.size; omega), by omega, ha2s, .inr ⟨rfl, HV3.out.symm⟩⟩
                    · rw [if_neg hlt5] at hv3
                      have HV3 := Lib.hid hv3
                      have HLE := Lib.hid (UInt8.not_lt.1 hlt5)
                      have hltp : decide ((b2.toNat : Int) < (c1'.toNat : Int)) = false := by rw [decide_eq_false_iff_not]; have := UInt8.le_iff_toNat_le.1 HLE.out; omega
                      have hltn : decide (b2.toNat < c1'.toNat) = false := by rw [decide_eq_false_iff_not]; have := UInt8.le_iff_toNat_le.1 HLE.out; omega
                      clear hv3 hlt5
                      go_wp2_with fail
                      go_meet
                      exact ⟨b2, a2, 0, bd2, rfl, HRB.out, HKB.out, HPB.out, HQB.out, HZB.out, by omega, ha2s, .inl ⟨rfl, by omega, HLE.out, HV3.out⟩⟩
                  · have hno : I2 = none := by
                      rcases HCB.out with h | h
                      · exact absurd h.1 (by decide)
                      · exact h.2
                    have hv3 := HV2.out
                    rw [hno] at hv3
                    have HV3 := Lib.hid hv3
                    clear hv3 hno HCB HV2
                    go_wp2_with fail
                    go_meet
                    exact ⟨b2, a2, 2, bd2, rfl, HRB.out, HKB.out, HPB.out, HQB.out, HZB.out, by omega, ha2s, .inr ⟨rfl, HV3.out.symm⟩⟩
              case rest =>
                obtain ⟨b, a2, e2, bd2, rfl, hr, hk, hp, hq, hz, ha2, ha2s, hc2⟩ := hcut
                have HRC2 := Lib.hid hr
                have HKC := Lib.hid hk
                have HPC := Lib.hid hp
                have HQC := Lib.hid hq
                have HZC := Lib.hid hz
                have HCC := Lib.hid hc2
                have hb256 : b.toNat < 256 := b.toNat_lt
                have hc256 : c1'.toNat < 256 := c1'.toNat_lt
                clear hr hk hp hq hz hc2 HR9 HK9 HP9 HQ9 HZ9 HV HC8 HDA
                go_wp2_with fail
                go_loopw [9] (fun x wx => ∃ (k : Nat) (S2 : UInt8 → Bool), x = .int .i64 k ∧ c1'.toNat ≤ k ∧ k ≤ 256 ∧ (c1' ≤ b → k ≤ b.toNat + 1 ∧ S2 = fillTo S c1' k) ∧ R4 wx rb s a2 d e2 bd2 ∧ Kp (· = rb) w wx ∧ NdB wx (n + 1) (.slice none 0 0, .node 3 [] S2) ∧ NdB wx n (zN 0) ∧ n + 2 ≤ wx.heap.size) (fun x _ => 300 - (intOf x).toNat)
                case atStart => exact ⟨c1'.toNat, S, rfl, Nat.le_refl _, by omega, fun h => ⟨by have := UInt8.le_iff_toNat_le.1 h; omega, by rw [fillTo_start]⟩, HRC2.out, HKC.out, HPC.out, HQC.out, HZC.out⟩
                case round =>
                  obtain ⟨k, S2, rfl, hk1, hk2, hs2, hr4, hk4, hp4, hb4, hz4⟩ := hrel
                  have HR8 := Lib.hid hr4
                  have HK8 := Lib.hid hk4
                  have HB8 := Lib.hid hb4
                  have HP8 := Lib.hid hp4
                  have HZ8 := Lib.hid hz4
                  have HS2 := Lib.hid hs2
                  clear hr4 hk4 hb4 hp4 hz4 hs2
                  by_cases hlt3 : k ≤ b.toNat
                  · have g1 : decide ((k : Int) ≤ (b.toNat : Int)) = true := by rw [decide_eq_true_iff]; omega
                    have g2 : decide (k ≤ b.toNat) = true := by rw [decide_eq_true_iff]; omega
                    have hk256 : k < 256 := by omega
                    have cc := HP8.out.cs k hk256
                    have cf := HP8.out.fz (2 + k)
                    go_wp2_with fail
                    go_roundw
                    case rel =>
                      refine ⟨k + 1, (fun y => if y = UInt8.ofNat k then true else S2 y), by go_num, by omega, by omega, ?_, HR8.out.kp ((Kp.refl (· = n + 1) _).setCell (p := ⟨n + 1, 2 + k, none⟩) (.inl rfl) _) (by have := hne; omega), HK8.out.setCell (p := ⟨n + 1, 2 + k, none⟩) (.inr (by show _ ≤ n + 1; have := HN.out; omega)) _, ?_, HB8.out.kp ((Kp.refl (· = n + 1) _).setCell (p := ⟨n + 1, 2 + k, none⟩) (.inl rfl) _) (by omega), ?_⟩
                      · intro h
                        refine ⟨by omega, ?_⟩
                        rw [fillTo_step S c1' k hk1 hk256, ← (HS2.out h).2]
                      · have := HP8.out.putSet (UInt8.ofNat k) true
                        rw [UInt8.toNat_ofNat', Nat.mod_eq_of_lt hk256] at this
                        exact this
                      · simpa [World.setCell] using HZ8.out
                    case measure => simp [intOf]; omega
                  · have g1 : decide ((k : Int) ≤ (b.toNat : Int)) = false := by rw [decide_eq_false_iff_not]; omega
                    have g2 : decide (k ≤ b.toNat) = false := by rw [decide_eq_false_iff_not]; omega
                    go_wp2_with fail
                    go_roundg (gk - 1)
                    case measure => omega
                    case rel =>
                      refine ⟨false, a2, e2, bd2, S2, rfl, HR8.out, by omega, ha2s, HK8.out, HP8.out, HB8.out, HZ8.out, ?_⟩
                      rcases HCC.out with ⟨h1, h2, h3, h4⟩ | ⟨h1, h2⟩
                      · obtain ⟨h5, rfl⟩ := HS2.out h3
                        refine .inl ⟨h1, by omega, f, by omega, ?_⟩
                        rw [show fillTo S c1' k = fillS S c1' b by rw [fillTo_end, show k = b.toNat + 1 by omega]]
                        exact h4
                      · exact .inr ⟨h1, rfl, by omega, h2⟩
end Go.Proofs.YtnnfhcbopchodaaDoor
