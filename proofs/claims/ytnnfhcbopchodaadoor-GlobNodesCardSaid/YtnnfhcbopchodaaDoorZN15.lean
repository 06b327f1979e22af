/- Chapter 4's reader: an atom. Chapter 4's reader: kids that are appended, a node about one kid. Chapter 4's instructions in memory; steps of walks at whole instructions and at nodes in rows. Chapter 4's emit: words; a byte's, a sequence's. (Several texts in one file, by merge.py.) -/
import Derived.Test.YtnnfhcbopchodaaDoorZN14
import Derived.Test.YtnnfhcbopchodaaDoorZN11
import Derived.Deep.LoopGhost
import Derived.Deep.DeepCutAuto
import Derived.Deep.Cut
import Derived.Deep.CutRange
import Derived.Deep.CutBlock
namespace Go.Proofs.YtnnfhcbopchodaaDoor
open Go Go.RowKit
set_option linter.unusedVariables false
set_option linter.unusedSimpArgs false
set_option maxRecDepth 100000
theorem flipTo_all (k : Nat) : ∀ S : UInt8 → Bool, (fun y : UInt8 => if y.toNat < k then true else S y) = fun y => if y.toNat < k then true else S y := fun _ => rfl
def allTo (k : Nat) : UInt8 → Bool := fun y => decide (y.toNat < k)
theorem allTo_start : allTo 0 = noS := by funext y; unfold allTo noS; rw [decide_eq_false (by omega)]
theorem allTo_end : allTo 256 = fun _ => true := by funext y; unfold allTo; rw [decide_eq_true y.toNat_lt]
theorem allTo_step (k : Nat) (h2 : k < 256) : allTo (k + 1) = fun y => if y = UInt8.ofNat k then true else allTo k y := by
  funext y
  unfold allTo
  by_cases h : y = UInt8.ofNat k
  · have hy : y.toNat = k := by rw [h, UInt8.toNat_ofNat', Nat.mod_eq_of_lt h2]
    rw [if_pos h, decide_eq_true (by omega)]
  · have hne : y.toNat ≠ k := fun e => h (by rw [← e]; simp)
    rw [if_neg h]
    by_cases h3 : y.toNat < k
    · rw [decide_eq_true h3, decide_eq_true (by omega)]
    · rw [decide_eq_false h3, decide_eq_false (by omega)]
theorem oneS_put (c : UInt8) : (fun y => if y = c then true else noS y) = oneS c := by
  funext y
  unfold oneS noS
  by_cases h : y = c
  · rw [if_pos h, h]; simp
  · rw [if_neg h]; symm; rw [beq_eq_false_iff_ne]; exact h
/-- Alternatives at a fuel: the contract. -/
def AltC (f : Nat) : Prop := ∀ (rb : Nat) (s : ByteArray) (p d : Nat) (bad : Int) (w : World), R4 w rb s p d 0 bad → s.size ≤ 4096 → p ≤ s.size → d ≤ 40 → 3 * (s.size - p) + 4 ≤ f →
  Calls Tryd.prog 28 #[.pointer (some ⟨rb, 0, none⟩)] w fun e w' => AQ s rb d p w (altsL f d (s.data.toList.drop p)) e w'
set_option maxHeartbeats 8000000 in
theorem r4atom_any (f : Nat) (HALT : AltC f) (rb : Nat) (s : ByteArray) (p d : Nat) (bad : Int) (w : World) (h : R4 w rb s p d 0 bad) (hs : s.size ≤ 4096) (hlt : p < s.size) (hd : d ≤ 40) (hfu : 3 * (s.size - p) + 1 ≤ f) :
    Calls Tryd.prog 68 #[.pointer (some ⟨rb, 0, none⟩)] w fun e w' => AQ s rb d (p + 1) w (atomL (f + 1) d (s.data.toList.drop p)) e w' := by
  obtain ⟨R, hR⟩ : ∃ R, atomL (f + 1) d (s.data.toList.drop p) = R := ⟨_, rfl⟩
  rw [hR]
  have HR := Lib.hid h
  have HL := Lib.hid (heap_lt h)
  have HAL := Lib.hid HALT
  obtain ⟨n, hn⟩ : ∃ n, w.heap.size = n := ⟨_, rfl⟩
  have HN := Lib.hid hn
  have hne : rb ≠ n ∧ rb ≠ n + 1 ∧ rb < n := by have := HL.out; omega
  rw [drop_bAt hlt] at hR
  have hg := bAt_get hlt
  obtain ⟨c, hc⟩ : ∃ c, bAt s p = c := ⟨_, rfl⟩
  rw [hc] at hg hR
  have e46 : ((c.toNat : Int) == 46) = (c == 46) := gu8_lit c 46 46 rfl
  have e92 : ((c.toNat : Int) == 92) = (c == 92) := gu8_lit c 92 92 rfl
  have e91 : ((c.toNat : Int) == 91) = (c == 91) := gu8_lit c 91 91 rfl
  have e40 : ((c.toNat : Int) == 40) = (c == 40) := gu8_lit c 40 40 rfl
  unfold atomL at hR
  simp only at hR
  have HRR := Lib.hid hR
  clear h hn hR hc HALT
  go_enter Tryd.func68, Tryd.ntmps68
  go_upto_region 2 with (first
    | (refine Tryd.stepAllocNd (n := n) rfl rfl HN.out ?_
       intro W1 p1 z1 k1
       have HA1 := Lib.hid p1
       have HZ1 := Lib.hid z1
       have HR1 := Lib.hid (HR.out.kp k1 (fun h => h))
       have HK1 := Lib.hid k1
       clear p1 z1 k1)
    | (refine Tryd.stepBuildN 3 rfl rfl ?_)
    | (refine Tryd.stepAllocNd (n := n + 1) rfl rfl HZ1.out ?_; intro W2 p2 z2 k2)
    | (refine Tryd.stepStoreNd (z' := zN 3) (.tmp 3) (.tmp 6) (n + 1) rfl rfl rfl rfl p2 rfl ?_
       intro W3 p3 z3 k3
       have HK3 := Lib.hid (((HK1.out.mono (C := (· = rb)) (fun _ _ h => h.elim)).trans (k2.mono (C := (· = rb)) (fun _ _ h => h.elim))).trans_new k3 (fun b hb => .inr (by have := HN.out; omega)))
       have HR3 := Lib.hid ((HR1.out.kp k2 (fun h => h)).kp k3 (by have := HN.out; have := HL.out; omega))
       have HP3 := Lib.hid p3
       have HQ3 := Lib.hid ((HA1.out.kp k2 (fun h => h)).kp k3 (by omega))
       have HZ3 := Lib.hid (show W3.heap.size = n + 2 by omega)
       clear p2 z2 k2 p3 z3 k3))
  have c0 := HR3.out.c0
  have c1 := HR3.out.c1
  go_quiet (fail)
  generalize hW4 : W3.drewN _ = w4
  have HR4 := Lib.hid (show R4 w4 rb s p d 0 bad by rw [← hW4]; exact HR3.out.drewN _)
  have HK4 := Lib.hid (show Kp (· = rb) w w4 by rw [← hW4]; exact HK3.out.drewN _)
  have HP4 := Lib.hid (show NdB w4 (n + 1) (zN 3) by rw [← hW4]; exact HP3.out)
  have HQ4 := Lib.hid (show NdB w4 n (zN 0) by rw [← hW4]; exact HQ3.out)
  have HZ4 := Lib.hid (show n + 2 ≤ w4.heap.size by rw [← hW4]; exact Nat.le_of_eq HZ3.out.symm)
  clear hW4 c0 c1 HR1 HK1 HA1 HZ1 HR3 HK3 HP3 HQ3 HZ3
  by_cases h46 : c = 46
  · have hv := HRR.out
    rw [if_pos h46] at hv
    have HV := Lib.hid hv
    replace e46 : ((c.toNat : Int) == 46) = true := by rw [e46]; simpa using h46
    clear hv h46 e92 e91 e40 HRR
    have c1 := HR4.out.c1
    have f1 := HR4.out.fz 1
    go_wp2_with fail
    go_loopw [5] (fun x wx => ∃ k : Nat, x = .int .i64 k ∧ k ≤ 256 ∧ R4 wx rb s (p + 1) d 0 bad ∧ Kp (· = rb) w wx ∧ NdB wx (n + 1) (.slice none 0 0, .node 3 [] (allTo k)) ∧ NdB wx n (zN 0) ∧ n + 2 ≤ wx.heap.size) (fun x _ => 300 - (intOf x).toNat)
    case atStart => exact ⟨0, rfl, by omega, HR4.out.put1 (p + 1), HK4.out.setCell (.inl rfl) _, by rw [allTo_start]; exact HP4.out.kp ((Kp.refl (· = rb) _).setCell (p := ⟨rb, 1, none⟩) (.inl rfl) _) (by have := hne; omega), HQ4.out.kp ((Kp.refl (· = rb) _).setCell (p := ⟨rb, 1, none⟩) (.inl rfl) _) (by have := hne; omega), by simpa [World.setCell] using HZ4.out⟩
    case round =>
      obtain ⟨k, rfl, hk2, hr4, hk4, hp4, hb4, hz4⟩ := hrel
      have HR8 := Lib.hid hr4
      have HK8 := Lib.hid hk4
      have HB8 := Lib.hid hb4
      have HP8 := Lib.hid hp4
      have HZ8 := Lib.hid hz4
      clear hr4 hk4 hb4 hp4 hz4 c1 f1
      by_cases hlt3 : k < 256
      · have cc := HP8.out.cs k hlt3
        have cf := HP8.out.fz (2 + k)
        go_wp2_with fail
        go_roundw
        case rel =>
          refine ⟨k + 1, by go_num, by omega, HR8.out.kp ((Kp.refl (· = n + 1) _).setCell (p := ⟨n + 1, 2 + k, none⟩) (.inl rfl) _) (by have := hne; omega), HK8.out.setCell (p := ⟨n + 1, 2 + k, none⟩) (.inr (by show _ ≤ n + 1; have := HN.out; omega)) _, ?_, HB8.out.kp ((Kp.refl (· = n + 1) _).setCell (p := ⟨n + 1, 2 + k, none⟩) (.inl rfl) _) (by omega), ?_⟩
          · have := HP8.out.putSet (UInt8.ofNat k) true
            rw [UInt8.toNat_ofNat', Nat.mod_eq_of_lt hlt3] at this
            rw [allTo_step k hlt3]
            exact this
          · simpa [World.setCell] using HZ8.out
        case measure => simp [intOf]; omega
      · obtain rfl : k = 256 := by omega
        go_wp2_with (first
          | (refine Tryd.stepLoadNd (z := (.slice none 0 0, .node 3 [] (allTo 256))) (.tmp 3) (n + 1) rfl rfl rfl HP8.out ?_)
          | (refine Tryd.stepStoreNd (z := zN 0) (z' := (.slice none 0 0, .node 3 [] (allTo 256))) (.tmp 2) (.tmp 132) n rfl rfl rfl rfl HB8.out rfl ?_
             intro W9 p9 z9 k9))
        refine bodyPost_ret (Tryd.resultNd rfl rfl p9) rfl ⟨.slice none 0 0, .node 3 [] (allTo 256), p + 1, 0, bad, rfl, HR8.out.kp k9 (by have := hne; omega), HK8.out.trans_new k9 (fun b hb => .inr (by have := HN.out; omega)), by omega, NdOk.nil _ _, .inl ⟨rfl, by rw [← HV.out, allTo_end], by omega, by omega⟩⟩
  have hv1 := HRR.out
  rw [if_neg h46] at hv1
  have x46 : ((c.toNat : Int) == 46) = false := by rw [e46]; simpa using h46
  clear e46 HRR
  by_cases h92 : c = 92
  · rw [if_pos h92] at hv1
    have HV := Lib.hid hv1
    have x92 : ((c.toNat : Int) == 92) = true := by rw [e92]; simpa using h92
    clear hv1 h92 h46 e91 e40 e92
    go_wp2_with fail
    refine (r4esc_any rb s ⟨#[92, 46, 91, 93, 40, 41, 124, 42, 43, 63, 94, 36, 123, 125, 47, 45]⟩ p d bad _ HR4.out hs hlt (by decide)).mono ?_
    rintro e w5 ⟨c2, a2, er, bd, rfl, hr5, hk5, ha2, ha2s, hc5⟩
    have HR5 := Lib.hid hr5
    have HK5 := Lib.hid (HK4.out.trans hk5)
    have HP5 := Lib.hid (HP4.out.kp hk5 (by have := hne; omega))
    have HQ5 := Lib.hid (HQ4.out.kp hk5 (by have := hne; omega))
    have HC5 := Lib.hid hc5
    have cc := HP5.out.cs c2.toNat c2.toNat_lt
    have cf := HP5.out.fz (2 + c2.toNat)
    have hc256 : c2.toNat < 256 := c2.toNat_lt
    clear hr5 hk5 hc5
    go_wp2_with (first
      | (refine Tryd.stepLoadNd (z := (.slice none 0 0, .node 3 [] (oneS c2))) (.tmp 3) (n + 1) rfl rfl rfl (by have := HP5.out.putSet c2 true; rw [oneS_put] at this; exact this) ?_)
      | (refine Tryd.stepStoreNd (z := zN 0) (z' := (.slice none 0 0, .node 3 [] (oneS c2))) (.tmp 2) (.tmp 132) n rfl rfl rfl rfl (HQ5.out.kp ((Kp.refl (· = n + 1) _).setCell (p := ⟨n + 1, 2 + c2.toNat, none⟩) (.inl rfl) _) (by omega)) rfl ?_
         intro W9 p9 z9 k9))
    refine bodyPost_ret (Tryd.resultNd rfl rfl p9) rfl ⟨.slice none 0 0, .node 3 [] (oneS c2), a2, er, bd, rfl, (HR5.out.kp ((Kp.refl (· = n + 1) _).setCell (p := ⟨n + 1, 2 + c2.toNat, none⟩) (.inl rfl) _) (by have := hne; omega)).kp k9 (by have := hne; omega), (HK5.out.setCell (p := ⟨n + 1, 2 + c2.toNat, none⟩) (.inr (by show _ ≤ n + 1; have := HN.out; omega)) _).trans_new k9 (fun b hb => .inr (by have := HN.out; omega)), by omega, NdOk.nil _ _, ?_⟩
    rcases HC5.out with ⟨h1, h2, h3⟩ | ⟨h1, h2⟩
    · exact .inl ⟨h1, by rw [← HV.out]; exact (congrArg (Option.map fun p => (RT.node 3 [] (oneS p.1), p.2)) h2), ha2s, ha2⟩
    · exact .inr ⟨by omega, by rw [← HV.out]; exact (congrArg (Option.map fun p => (RT.node 3 [] (oneS p.1), p.2)) h2)⟩
  rw [if_neg h92] at hv1
  have x92 : ((c.toNat : Int) == 92) = false := by rw [e92]; simpa using h92
  clear e92
  by_cases h91 : c = 91
  · rw [if_pos h91] at hv1
    have HV := Lib.hid hv1
    have x91 : ((c.toNat : Int) == 91) = true := by rw [e91]; simpa using h91
    clear hv1 h91 h92 h46 e91 e40
    go_wp2_with fail
    refine (r4class_any rb s p d bad _ HR4.out hs hlt hd).mono ?_
    rintro e w5 ⟨v, t, a2, er, bd, rfl, hr5, hk5, ha2s, hn5, hc5⟩
    have HR5 := Lib.hid hr5
    have HK5 := Lib.hid (HK4.out.trans hk5)
    have HQ5 := Lib.hid (HQ4.out.kp hk5 (by have := hne; omega))
    have HN5 := Lib.hid hn5
    have HC5 := Lib.hid hc5
    clear hr5 hk5 hn5 hc5
    go_wp2_with (refine Tryd.stepStoreNd (z := zN 0) (z' := (v, t)) (.tmp 2) (.tmp 52) n rfl rfl rfl rfl HQ5.out HN5.out.one ?_; intro W9 p9 z9 k9)
    refine bodyPost_ret (Tryd.resultNd rfl rfl p9) rfl ⟨v, t, a2, er, bd, rfl, HR5.out.kp k9 (by have := hne; omega), HK5.out.trans_new k9 (fun b hb => .inr (by have := HN.out; omega)), ha2s, (HN5.out.kp_of k9 (fun b hb => by have := HZ4.out; omega)).mono (fun b hb => by have := HZ4.out; have := HN.out; omega), ?_⟩
    rw [← HV.out]
    exact HC5.out
  rw [if_neg h91] at hv1
  have x91 : ((c.toNat : Int) == 91) = false := by rw [e91]; simpa using h91
  clear e91
  by_cases h40 : c = 40
  · rw [if_pos h40] at hv1
    have x40 : ((c.toNat : Int) == 40) = true := by rw [e40]; simpa using h40
    clear h40 h91 h92 h46 e40
    by_cases hd40 : d = 40
    · rw [if_pos hd40] at hv1
      have HV := Lib.hid hv1
      have xd : ((d : Int) == 40) = true := by rw [hd40]; rfl
      have c2 := HR4.out.c2
      have c1 := HR4.out.c1
      clear hv1 hd40
      go_wp2_with fail
      refine (r4fail_any rb s p d bad 6 _ _ HR4.out).mono ?_
      rintro e w5 ⟨rfl, hr5, hk5⟩
      have HR5 := Lib.hid hr5
      have HK5 := Lib.hid (HK4.out.trans hk5)
      have HP5 := Lib.hid (HP4.out.kp hk5 (by have := hne; omega))
      have HQ5 := Lib.hid (HQ4.out.kp hk5 (by have := hne; omega))
      clear hr5 hk5
      go_wp2_with (first
        | (refine Tryd.stepLoadNd (z := zN 3) (.tmp 3) (n + 1) rfl rfl rfl HP5.out ?_)
        | (refine Tryd.stepStoreNd (z := zN 0) (z' := zN 3) (.tmp 2) (.tmp 66) n rfl rfl rfl rfl HQ5.out rfl ?_
           intro W9 p9 z9 k9))
      refine bodyPost_ret (Tryd.resultNd rfl rfl p9) rfl ⟨.slice none 0 0, .node 3 [] noS, p, 6, _, rfl, HR5.out.kp k9 (by have := hne; omega), HK5.out.trans_new k9 (fun b hb => .inr (by have := HN.out; omega)), by omega, NdOk.nil _ _, .inr ⟨by decide, HV.out.symm⟩⟩
    rw [if_neg hd40] at hv1
    have HV := Lib.hid hv1
    have xd : ((d : Int) == 40) = false := by rw [beq_eq_false_iff_ne]; omega
    have hd39 : d + 1 ≤ 40 := by omega
    have c2 := HR4.out.c2
    have c1 := HR4.out.c1
    have f1 := HR4.out.fz 1
    have f2 := HR4.out.fz 2
    clear hv1 hd40
    go_upto_region 22 with fail
    have HR5 := Lib.hid (show R4 ((w4.setCell ⟨rb, 1, none⟩ (.int .i64 ((p : Int) + 1))).setCell ⟨rb, 2, none⟩ (.int .i64 ((d : Int) + 1))) rb s (p + 1) (d + 1) 0 bad from (HR4.out.put1 (p + 1)).put2 (d + 1))
    have HK5 := Lib.hid ((HK4.out.setCell (p := ⟨rb, 1, none⟩) (.inl rfl) (.int .i64 ((p : Int) + 1))).setCell (p := ⟨rb, 2, none⟩) (.inl rfl) (.int .i64 ((d : Int) + 1)))
    have hkk : Kp (· = rb) w4 ((w4.setCell ⟨rb, 1, none⟩ (.int .i64 ((p : Int) + 1))).setCell ⟨rb, 2, none⟩ (.int .i64 ((d : Int) + 1))) := ((Kp.refl (· = rb) w4).setCell (p := ⟨rb, 1, none⟩) (.inl rfl) _).setCell (p := ⟨rb, 2, none⟩) (.inl rfl) _
    have HP5 := Lib.hid (HP4.out.kp hkk (by have := hne; omega))
    have HQ5 := Lib.hid (HQ4.out.kp hkk (by have := hne; omega))
    have HZ5 := Lib.hid (Nat.le_trans HZ4.out hkk.size)
    generalize (w4.setCell ⟨rb, 1, none⟩ (.int .i64 ((p : Int) + 1))).setCell ⟨rb, 2, none⟩ (.int .i64 ((d : Int) + 1)) = w5 at HR5 HK5 HP5 HQ5 HZ5 ⊢
    clear hkk c1 c2 f1 f2 HR4 HK4 HP4 HQ4 HZ4
    have HA5 := Lib.hid (HAL.out rb s (p + 1) (d + 1) bad w5 HR5.out hs (by omega) hd39 (by omega))
    obtain ⟨A1, hA1⟩ : ∃ A1, A1 = altsL f (d + 1) (s.data.toList.drop (p + 1)) := ⟨_, rfl⟩
    rw [← hA1] at HA5 HV
    clear hA1
    go_wp2_with fail
    refine HA5.out.mono ?_
    rintro e w6 ⟨v, t, a2, er, bd, rfl, hr6, hk6, ha2, hn6, hc6⟩
    have HR6 := Lib.hid hr6
    have HK6 := Lib.hid (HK5.out.trans hk6)
    have HP6 := Lib.hid (HP5.out.kp hk6 (by have := hne; omega))
    have HQ6 := Lib.hid (HQ5.out.kp hk6 (by have := hne; omega))
    have HN6 := Lib.hid hn6
    have HC6 := Lib.hid hc6
    have HZ6 := Lib.hid (show n + 2 ≤ w5.heap.size from HZ5.out)
    clear hr6 hk6 hn6 hc6 HR5 HK5 HP5 HQ5 HZ5 HA5
    go_upto_region 23 with (refine Tryd.stepStoreNd (z := zN 3) (z' := (v, t)) (.tmp 3) (.tmp 82) (n + 1) rfl rfl rfl rfl HP6.out HN6.out.one ?_; intro W7 p7 z7 k7)
    have HR7 := Lib.hid (HR6.out.kp k7 (by have := hne; omega))
    have HK7 := Lib.hid (HK6.out.trans_new k7 (fun b hb => .inr (by have := HN.out; omega)))
    have HP7 := Lib.hid p7
    have HQ7 := Lib.hid (HQ6.out.kp k7 (by omega))
    have HN7 := Lib.hid (HN6.out.kp_of k7 (fun b hb => by have := HZ6.out; omega))
    clear p7 z7 k7 HR6 HK6 HP6 HQ6 HN6
    have c2 := HR7.out.c2
    have f2 := HR7.out.fz 2
    go_upto_region 24 with fail
    have HR8 := Lib.hid (show R4 (W7.setCell ⟨rb, 2, none⟩ (.int .i64 (d : Int))) rb s a2 d er bd from HR7.out.put2 d)
    have hk8 : Kp (· = rb) W7 (W7.setCell ⟨rb, 2, none⟩ (.int .i64 (d : Int))) := (Kp.refl (· = rb) W7).setCell (p := ⟨rb, 2, none⟩) (.inl rfl) _
    have HK8 := Lib.hid (HK7.out.trans hk8)
    have HP8 := Lib.hid (HP7.out.kp hk8 (by have := hne; omega))
    have HQ8 := Lib.hid (HQ7.out.kp hk8 (by have := hne; omega))
    have HN8 := Lib.hid (HN7.out.kp_of hk8 (fun b hb => by have := HZ6.out; have := hne; omega))
    generalize W7.setCell ⟨rb, 2, none⟩ (.int .i64 (d : Int)) = w8 at HR8 HK8 HP8 HQ8 HN8 ⊢
    clear hk8 HR7 HK7 HP7 HQ7 HN7 c2 f2
    obtain ⟨bo, hbo⟩ : ∃ bo, bo = decide (er = 0 ∧ ¬ (s.data.toList.drop a2).head? = some 41) := ⟨_, rfl⟩
    have HBO := Lib.hid hbo
    have c0 := HR8.out.c0
    have c1 := HR8.out.c1
    have c3 := HR8.out.c3
    go_cut [118] (fun s118 wx => s118 = .bool bo ∧ ∃ m, wx = w8.drewN m)
    case first =>
      by_cases he : er = 0
      · subst he
        by_cases hlt2 : a2 < s.size
        · have hg2 := bAt_get hlt2
          rw [drop_bAt hlt2] at hbo
          obtain ⟨c', hc'⟩ : ∃ c', bAt s a2 = c' := ⟨_, rfl⟩
          rw [hc'] at hg2 hbo
          have e41 : ((c'.toNat : Int) != 41) = bo := by
            unfold bne
            rw [gu8_lit c' 41 41 rfl, hbo, Bool.eq_iff_iff, Bool.not_eq_true', beq_eq_false_iff_ne, decide_eq_true_iff]
            simp
          have hge : ¬ s.size ≤ a2 := by omega
          have g1 : decide ((s.size : Int) ≤ (a2 : Int)) = false := by rw [decide_eq_false_iff_not]; omega
          clear hbo hc'
          go_quiet (fail)
          go_wp2_with fail
          go_meet
          exact ⟨rfl, _, rfl⟩
        · rw [drop_over (by omega)] at hbo
          have hb : bo = true := by rw [hbo]; simp
          subst hb
          have hge : s.size ≤ a2 := by omega
          have g1 : decide ((s.size : Int) ≤ (a2 : Int)) = true := by rw [decide_eq_true_iff]; omega
          clear hbo
          go_quiet (fail)
          go_wp2_with fail
          go_meet
          exact ⟨rfl, _, rfl⟩
      · have hb : bo = false := by rw [hbo, decide_eq_false_iff_not]; exact fun h => he h.1
        subst hb
        have e0 : (er == 0) = false := by rw [beq_eq_false_iff_ne]; exact he
        clear hbo he
        go_quiet (fail)
        go_wp2_with fail
        go_meet
        exact ⟨rfl, _, rfl⟩
    case rest =>
      obtain ⟨rfl, m9, rfl⟩ := hcut
      have HR9 := Lib.hid (HR8.out.drewN m9)
      have HK9 := Lib.hid (HK8.out.drewN m9)
      have HP9 := Lib.hid (show NdB (w8.drewN m9) (n + 1) (v, t) from HP8.out)
      have HQ9 := Lib.hid (show NdB (w8.drewN m9) n (zN 0) from HQ8.out)
      have HN9 := Lib.hid (HN8.out.kp_of ((Kp.refl (fun _ => False) w8).drewN m9) (fun b hb => hb.elim))
      generalize w8.drewN m9 = w9 at HR9 HK9 HP9 HQ9 HN9 ⊢
      clear c0 c1 c3 HR8 HK8 HP8 HQ8 HN8 hbo
      cases bo with
      | true =>
        have hx := of_decide_eq_true HBO.out.symm
        obtain ⟨rfl, hx2⟩ := hx
        have HRE := Lib.hid (show R = none by
          rw [← HV.out]
          rcases HC6.out with ⟨-, h2, -, -⟩ | ⟨h1, -⟩
          · rw [h2]
            simp only
            rw [if_neg hx2]
          · exact absurd rfl h1)
        clear HC6 HBO hx2
        have c1 := HR9.out.c1
        go_wp2_with fail
        refine (r4fail_any rb s a2 d bd 2 _ _ HR9.out).mono ?_
        rintro e w10 ⟨rfl, hr10, hk10⟩
        have HR10 := Lib.hid hr10
        have HK10 := Lib.hid (HK9.out.trans hk10)
        have HP10 := Lib.hid (HP9.out.kp hk10 (by have := hne; omega))
        have HQ10 := Lib.hid (HQ9.out.kp hk10 (by have := hne; omega))
        have HN10 := Lib.hid (HN9.out.kp_of hk10 (fun b hb => by have := HZ6.out; have := hne; omega))
        clear hr10 hk10 c1 HR9 HK9 HP9 HQ9 HN9
        have c1 := HR10.out.c1
        have f1 := HR10.out.fz 1
        go_wp2_with (first
          | (refine Tryd.stepLoadNd (z := (v, t)) (.tmp 3) (n + 1) rfl rfl rfl (HP10.out.kp ((Kp.refl (· = rb) _).setCell (p := ⟨rb, 1, none⟩) (.inl rfl) _) (by have := hne; omega)) ?_)
          | (refine Tryd.stepStoreNd (z := zN 0) (z' := (v, t)) (.tmp 2) (.tmp 132) n rfl rfl rfl rfl (HQ10.out.kp ((Kp.refl (· = rb) _).setCell (p := ⟨rb, 1, none⟩) (.inl rfl) _) (by have := hne; omega)) HN10.out.one ?_
             intro W9 p9 z9 k9))
        refine bodyPost_ret (Tryd.resultNd rfl rfl p9) rfl ⟨v, t, a2 + 1, 2, _, rfl, (HR10.out.put1 (a2 + 1)).kp k9 (by have := hne; omega), (HK10.out.setCell (p := ⟨rb, 1, none⟩) (.inl rfl) _).trans_new k9 (fun b hb => .inr (by have := HN.out; omega)), by omega, ?_, .inr ⟨by decide, HRE.out⟩⟩
        exact (((HN10.out.kp_of ((Kp.refl (· = rb) _).setCell (p := ⟨rb, 1, none⟩) (.inl rfl) _) (fun b hb => by have := HZ6.out; have := hne; omega)).kp_of k9 (fun b hb => by have := HZ6.out; omega)).mono (fun b hb => by have := HZ6.out; have := HN.out; omega))
      | false =>
        have hx := of_decide_eq_false HBO.out.symm
        have HRE := Lib.hid (show (er = 0 ∧ R = some (t, s.data.toList.drop (a2 + 1)) ∧ a2 + 1 ≤ s.size ∧ p ≤ a2) ∨ (er ≠ 0 ∧ R = none) by
          rw [← HV.out]
          rcases HC6.out with ⟨h1, h2, h3, h4⟩ | ⟨h1, h2⟩
          · have h41 : (s.data.toList.drop a2).head? = some 41 := Decidable.not_not.1 (fun h => hx ⟨h1, h⟩)
            have hl2 : a2 < s.size := by
              rcases Nat.lt_or_ge a2 s.size with h | h
              · exact h
              · rw [drop_over h] at h41; cases h41
            rw [h2]
            simp only
            rw [if_pos h41, List.drop_drop]
            exact .inl ⟨h1, rfl, by omega, by omega⟩
          · rw [h2]
            exact .inr ⟨h1, rfl⟩)
        clear HC6 HBO hx
        have c1 := HR9.out.c1
        have f1 := HR9.out.fz 1
        go_wp2_with (first
          | (refine Tryd.stepLoadNd (z := (v, t)) (.tmp 3) (n + 1) rfl rfl rfl (HP9.out.kp ((Kp.refl (· = rb) _).setCell (p := ⟨rb, 1, none⟩) (.inl rfl) _) (by have := hne; omega)) ?_)
          | (refine Tryd.stepStoreNd (z := zN 0) (z' := (v, t)) (.tmp 2) (.tmp 132) n rfl rfl rfl rfl (HQ9.out.kp ((Kp.refl (· = rb) _).setCell (p := ⟨rb, 1, none⟩) (.inl rfl) _) (by have := hne; omega)) HN9.out.one ?_
             intro W9 p9 z9 k9))
        refine bodyPost_ret (Tryd.resultNd rfl rfl p9) rfl ⟨v, t, a2 + 1, er, bd, rfl, (HR9.out.put1 (a2 + 1)).kp k9 (by have := hne; omega), (HK9.out.setCell (p := ⟨rb, 1, none⟩) (.inl rfl) _).trans_new k9 (fun b hb => .inr (by have := HN.out; omega)), by omega, ?_, ?_⟩
        · exact (((HN9.out.kp_of ((Kp.refl (· = rb) _).setCell (p := ⟨rb, 1, none⟩) (.inl rfl) _) (fun b hb => by have := HZ6.out; have := hne; omega)).kp_of k9 (fun b hb => by have := HZ6.out; omega)).mono (fun b hb => by have := HZ6.out; have := HN.out; omega))
        · rcases HRE.out with ⟨h1, h2, h3, h4⟩ | ⟨h1, h2⟩
          · exact .inl ⟨h1, h2, h3, by omega⟩
          · exact .inr ⟨h1, h2⟩
  rw [if_neg h40] at hv1
  have HV := Lib.hid hv1
  have x40 : ((c.toNat : Int) == 40) = false := by rw [e40]; simpa using h40
  clear hv1 h40 h91 h92 h46 e40
  have cc := HP4.out.cs c.toNat c.toNat_lt
  have cf := HP4.out.fz (2 + c.toNat)
  have hc256 : c.toNat < 256 := c.toNat_lt
  have c1 := HR4.out.c1
  have f1 := HR4.out.fz 1
  go_upto_region 5 with fail
  have HR5 := Lib.hid (HR4.out.kp ((Kp.refl (· = n + 1) w4).setCell (p := ⟨n + 1, 2 + c.toNat, none⟩) (.inl rfl) (.bool true)) (by have := hne; omega))
  have HK5 := Lib.hid (HK4.out.setCell (p := ⟨n + 1, 2 + c.toNat, none⟩) (.inr (by show _ ≤ n + 1; have := HN.out; omega)) (.bool true))
  have HP5 := Lib.hid (show NdB (w4.setCell ⟨n + 1, 2 + c.toNat, none⟩ (.bool true)) (n + 1) (.slice none 0 0, .node 3 [] (oneS c)) by have := HP4.out.putSet c true; rw [oneS_put] at this; exact this)
  have HQ5 := Lib.hid (HQ4.out.kp ((Kp.refl (· = n + 1) w4).setCell (p := ⟨n + 1, 2 + c.toNat, none⟩) (.inl rfl) (.bool true)) (by omega))
  generalize w4.setCell ⟨n + 1, 2 + c.toNat, none⟩ (.bool true) = w5 at HR5 HK5 HP5 HQ5 ⊢
  clear c1 f1 cc cf HR4 HK4 HP4 HQ4
  have c1 := HR5.out.c1
  have f1 := HR5.out.fz 1
  go_wp2_with (first
    | (refine Tryd.stepLoadNd (z := (.slice none 0 0, .node 3 [] (oneS c))) (.tmp 3) (n + 1) rfl rfl rfl (HP5.out.kp ((Kp.refl (· = rb) _).setCell (p := ⟨rb, 1, none⟩) (.inl rfl) _) (by have := hne; omega)) ?_)
    | (refine Tryd.stepStoreNd (z := zN 0) (z' := (.slice none 0 0, .node 3 [] (oneS c))) (.tmp 2) (.tmp 132) n rfl rfl rfl rfl (HQ5.out.kp ((Kp.refl (· = rb) _).setCell (p := ⟨rb, 1, none⟩) (.inl rfl) _) (by have := hne; omega)) rfl ?_
       intro W9 p9 z9 k9))
  refine bodyPost_ret (Tryd.resultNd rfl rfl p9) rfl ⟨.slice none 0 0, .node 3 [] (oneS c), p + 1, 0, bad, rfl, (HR5.out.put1 (p + 1)).kp k9 (by have := hne; omega), (HK5.out.setCell (p := ⟨rb, 1, none⟩) (.inl rfl) _).trans_new k9 (fun b hb => .inr (by have := HN.out; omega)), by omega, NdOk.nil _ _, .inl ⟨rfl, HV.out.symm, by omega, by omega⟩⟩
end Go.Proofs.YtnnfhcbopchodaaDoor
namespace Go.Proofs.YtnnfhcbopchodaaDoor
open Go Go.RowKit
set_option linter.unusedVariables false
set_option linter.unusedSimpArgs false
set_option maxRecDepth 100000
/-- A node about one kid that was laid just now. -/
theorem NdOk.wrap {B : Nat → Prop} {w : World} {v : Value} {t : RT} (h : NdOk B w v t) (k : Nat) (hB : ¬ B w.heap.size) :
    NdOk B (w.alloc (.cells (nenc (v, t)).toArray NdT)) (.slice (some ⟨w.heap.size, 0, none⟩) 1 1) (.node k [t] noS) := by
  refine NdOk.mk _ k noS [(v, t)] ⟨⟨some ⟨w.heap.size, 0, none⟩, 1, rfl, ⟨Nat.le_refl _, by decide⟩, (fun e => by cases e), fun _ => ⟨w.heap.size, 0, rfl, fun j u hu => ?_⟩⟩, fun _ b hb => ?_⟩ ?_
  · rw [List.flatMap_singleton] at hu
    rw [Nat.zero_add, cell_of_row _ _ _ _ _ _ (heap_new w _), List.getElem?_toArray]
    exact hu
  · have : w.heap.size = b := by simpa [Value.ownBlock] using hb
    rw [← this]; exact hB
  · intro z hz
    rw [List.mem_singleton.1 hz]
    exact h.kp_of ((Kp.refl (fun _ => False) w).alloc _) (fun _ h => h.elim)
/-- A kid more. -/
theorem kids_app {w w2 X w' : World} {N : Nat} {v v' : Value} {zs : List ZNd} {z : ZNd} (hs : ∀ z ∈ zs, NdOk (fun b => b < N ∨ v.ownBlock = some b) w2 z.1 z.2) (hn : NdOk (fun b => b < N ∨ v.ownBlock = some b) w2 z.1 z.2)
    (hX : Below w2.heap.size w2 X) (hg : X.grownBy w' v.ownBlock) (hat : v'.ownBlock = v.ownBlock ∨ v'.ownBlock = some X.heap.size) :
    ∀ y ∈ zs ++ [z], NdOk (fun b => b < N ∨ v'.ownBlock = some b) w' y.1 y.2 := by
  have kX : Kp (fun b => v.ownBlock = some b) w2 w' := (Kp.of_below hX).trans (Kp.of_grown hg (fun b hb => hb))
  have hXs := hX.size
  have fin : ∀ y : ZNd, NdOk (fun b => b < N ∨ v.ownBlock = some b) w2 y.1 y.2 → NdOk (fun b => b < N ∨ v'.ownBlock = some b) w' y.1 y.2 := by
    intro y hy
    refine (hy.new.kp_of kX (fun b hb => .inl (.inr hb))).mono (fun b hb => ?_)
    rcases hb with hb | hb
    · exact .inl (.inl hb)
    · rcases hat with e | e
      · exact .inl (.inr (by rw [← e]; exact hb))
      · rw [e] at hb
        injection hb with hb
        exact .inr (by omega)
  intro y hy
  rcases List.mem_append.1 hy with hy | hy
  · exact fin y (hs y hy)
  · rw [List.mem_singleton.1 hy]; exact fin z hn
/-- Kids that lie in a row of one's own make a node. -/
theorem NdOk.own {w : World} {N : Nat} {v : Value} {zs : List ZNd} (ho : w.ownsRow N NdT 258 v zs.length (zs.flatMap nenc)) (hs : ∀ z ∈ zs, NdOk (fun b => b < N ∨ v.ownBlock = some b) w z.1 z.2) (k : Nat) (S : UInt8 → Bool) :
    NdOk (· < N) w v (.node k (zs.map (·.2)) S) :=
  NdOk.mk v k S zs ⟨Sl.own nenc_len (by decide) ho, fun _ b hb hlt => by have := own_base ho hb; omega⟩ (fun z hz => (hs z hz).mono (fun b hb => .inl hb))
end Go.Proofs.YtnnfhcbopchodaaDoor
namespace Go.Proofs.YtnnfhcbopchodaaDoor
open Go Go.RowKit
set_option linter.unusedVariables false
set_option linter.unusedSimpArgs false
set_option maxRecDepth 100000
abbrev InT : TypeId := 81
def ienc (i : In) : List Value := .int .i64 i.kind :: (pbits i.set ++ [.int .i64 i.a, .int .i64 i.b])
theorem ienc_len (i : In) : (ienc i).length = 259 := by simp [ienc, pbits_len]
theorem ienc_pos (i : In) : 0 < (ienc i).length := by rw [ienc_len]; decide
theorem ienc_size (i : In) : (ienc i).toArray.size = 259 := by rw [List.size_toArray, ienc_len]
theorem ienc_0 (i : In) : (ienc i)[0]? = some (.int .i64 i.kind) := rfl
theorem ienc_set (i : In) (k : Nat) (h : k < 256) : (ienc i)[1 + k]? = some (.bool (i.set (UInt8.ofNat k))) := by
  rw [Nat.add_comm]
  show (pbits i.set ++ [Value.int .i64 i.a, Value.int .i64 i.b])[k]? = _
  rw [List.getElem?_append_left (by rw [pbits_len]; exact h)]
  simp [pbits, h]
theorem ienc_a (i : In) : (ienc i)[257]? = some (.int .i64 i.a) := by
  show (pbits i.set ++ [Value.int .i64 i.a, Value.int .i64 i.b])[256]? = _
  rw [List.getElem?_append_right (by rw [pbits_len]; exact Nat.le_refl _), pbits_len]
  rfl
theorem ienc_b (i : In) : (ienc i)[258]? = some (.int .i64 i.b) := by
  show (pbits i.set ++ [Value.int .i64 i.a, Value.int .i64 i.b])[257]? = _
  rw [List.getElem?_append_right (by rw [pbits_len]; decide), pbits_len]
  rfl
theorem ienc_one (i : In) : ∀ u ∈ ienc i, u.oneCell' = true := by
  intro u hu
  unfold ienc at hu
  rcases List.mem_cons.1 hu with rfl | hu
  · rfl
  rcases List.mem_append.1 hu with hu | hu
  · obtain ⟨k, -, rfl⟩ := List.mem_map.1 hu; rfl
  · simp at hu
    rcases hu with rfl | rfl <;> rfl
theorem ienc_all (i : In) : (ienc i).toArray.all (·.oneCell') = true := all_oneCell_toArray (ienc_one i)
theorem ienc_updA (i : In) (v : Nat) : (ienc i).set 257 (.int .i64 v) = ienc { i with a := v } := by
  show _ :: (pbits i.set ++ [Value.int .i64 i.a, Value.int .i64 i.b]).set 256 (Value.int .i64 v) = _
  rw [List.set_append_right _ _ (by rw [pbits_len]; exact Nat.le_refl _), pbits_len]
  rfl
theorem ienc_updB (i : In) (v : Nat) : (ienc i).set 258 (.int .i64 v) = ienc { i with b := v } := by
  show _ :: (pbits i.set ++ [Value.int .i64 i.a, Value.int .i64 i.b]).set 257 (Value.int .i64 v) = _
  rw [List.set_append_right _ _ (by rw [pbits_len]; decide), pbits_len]
  rfl
theorem iflat_updB (v : Nat) : ∀ (p : List In) (f : Nat), f < p.length → (p.flatMap ienc).set (f * 259 + 258) (Value.int .i64 v) = (putB p f v).flatMap ienc
  | [], f, h => by simp at h
  | i :: r, 0, h => by
    rw [List.flatMap_cons, List.set_append_left _ _ (by rw [ienc_len]; decide), Nat.zero_mul, Nat.zero_add, ienc_updB]
    unfold putB
    rw [List.flatMap_cons]
  | i :: r, f + 1, h => by
    have ih := iflat_updB v r f (by simpa using h)
    rw [List.flatMap_cons, List.set_append_right _ _ (by rw [ienc_len]; omega), ienc_len, show (f + 1) * 259 + 258 - 259 = f * 259 + 258 by omega, ih]
    rfl
theorem iflat_updA (v : Nat) : ∀ (p : List In) (f : Nat), f < p.length → (p.flatMap ienc).set (f * 259 + 257) (Value.int .i64 v) = (putA p f v).flatMap ienc
  | [], f, h => by simp at h
  | i :: r, 0, h => by
    rw [List.flatMap_cons, List.set_append_left _ _ (by rw [ienc_len]; decide), Nat.zero_mul, Nat.zero_add, ienc_updA]
    unfold putA
    rw [List.flatMap_cons]
  | i :: r, f + 1, h => by
    have ih := iflat_updA v r f (by simpa using h)
    rw [List.flatMap_cons, List.set_append_right _ _ (by rw [ienc_len]; omega), ienc_len, show (f + 1) * 259 + 257 - 259 = f * 259 + 257 by omega, ih]
    rfl
theorem iflat_get {p : List In} {k : Nat} {i : In} (h : p[k]? = some i) (j : Nat) (hj : j < 259) : (p.flatMap ienc)[k * 259 + j]? = (ienc i)[j]? := by
  obtain ⟨hk, e⟩ := List.getElem?_eq_some_iff.1 h
  rw [flat_get ienc_len p k j hj hk, e]
theorem iflat_len (p : List In) : (p.flatMap ienc).length = p.length * 259 := by
  induction p with
  | nil => rfl
  | cons a r ih => rw [List.flatMap_cons, List.length_append, ienc_len, ih, List.length_cons]; omega
theorem Tryd.infoIn : (Tryd.prog.info? InT).map (·.size) = some 259 := by kernel_rfl
theorem Tryd.infoIns : (Tryd.prog.info? InT).map (fun i => (i.zero, i.size, i.bytes)) = some (some (.agg (ienc ⟨0, noS, 0, 0⟩).toArray), 259, 280) := by kernel_rfl
theorem Tryd.buildI_k (k : Nat) : Tryd.prog.built InT [(0, .int .i64 k)] = some (ienc ⟨k, noS, 0, 0⟩).toArray := by kernel_rfl
theorem Tryd.buildI_ks (k : Nat) (S : UInt8 → Bool) : Tryd.prog.built InT [(0, .int .i64 k), (1, .agg (pbits S).toArray)] = some (ienc ⟨k, S, 0, 0⟩).toArray := by kernel_rfl
theorem Tryd.buildI_ka (k a : Nat) : Tryd.prog.built InT [(0, .int .i64 k), (2, .int .i64 a)] = some (ienc ⟨k, noS, a, 0⟩).toArray := by kernel_rfl
theorem Tryd.buildI_kab (k a b : Nat) : Tryd.prog.built InT [(0, .int .i64 k), (2, .int .i64 a), (3, .int .i64 b)] = some (ienc ⟨k, noS, a, b⟩).toArray := by kernel_rfl
theorem Tryd.buildIS (i : In) : Tryd.prog.builtSlice InT 1 [(0, .agg (ienc i).toArray)] = some (ienc i).toArray := by kernel_rfl
section
variable {ops : Array Oper} {rest : List Oper} {o : Oper} {a : Act} {w : World} {Q : Exit → Act → World → Prop}
theorem Tryd.stepBuildI_k (k : Nat) (hg : o.guard = none) (ho : o.op = .build InT #[(0, .const (.int .i64 k))])
    (h : wpList Tryd.prog ops Q rest (a.put o.dst (.agg (ienc ⟨k, noS, 0, 0⟩).toArray)) w) : wpList Tryd.prog ops Q (o :: rest) a w := by
  have e : ((#[(0, Operand.const (.int .i64 k))] : Array (Nat × Operand)).map fun (i, x) => (i, a.eval x)).toList = [(0, .int .i64 k)] := by simp [Act.eval]
  have hb := Tryd.buildI_k k
  rw [← e] at hb
  refine wpList_build hg InT _ ho ?_ ?_
  · rw [hb]; rfl
  · rw [hb]; exact h
theorem Tryd.stepBuildI_ks (k : Nat) (S : UInt8 → Bool) (x : Operand) (hg : o.guard = none) (ho : o.op = .build InT #[(0, .const (.int .i64 k)), (1, x)]) (hx : a.eval x = .agg (pbits S).toArray)
    (h : wpList Tryd.prog ops Q rest (a.put o.dst (.agg (ienc ⟨k, S, 0, 0⟩).toArray)) w) : wpList Tryd.prog ops Q (o :: rest) a w := by
  have e : ((#[(0, Operand.const (.int .i64 k)), (1, x)] : Array (Nat × Operand)).map fun (i, x) => (i, a.eval x)).toList = [(0, .int .i64 k), (1, .agg (pbits S).toArray)] := by
    simp only [List.map_toArray, List.map_cons, List.map_nil, hx]
    simp [Act.eval]
  have hb := Tryd.buildI_ks k S
  rw [← e] at hb
  refine wpList_build hg InT _ ho ?_ ?_
  · rw [hb]; rfl
  · rw [hb]; exact h
theorem Tryd.stepBuildI_ka (k n : Nat) (x : Operand) (hg : o.guard = none) (ho : o.op = .build InT #[(0, .const (.int .i64 k)), (2, x)]) (hx : a.eval x = .int .i64 n)
    (h : wpList Tryd.prog ops Q rest (a.put o.dst (.agg (ienc ⟨k, noS, n, 0⟩).toArray)) w) : wpList Tryd.prog ops Q (o :: rest) a w := by
  have e : ((#[(0, Operand.const (.int .i64 k)), (2, x)] : Array (Nat × Operand)).map fun (i, x) => (i, a.eval x)).toList = [(0, .int .i64 k), (2, .int .i64 n)] := by
    simp only [List.map_toArray, List.map_cons, List.map_nil, hx]
    simp [Act.eval]
  have hb := Tryd.buildI_ka k n
  rw [← e] at hb
  refine wpList_build hg InT _ ho ?_ ?_
  · rw [hb]; rfl
  · rw [hb]; exact h
theorem Tryd.stepBuildI_kab (k n m : Nat) (x y : Operand) (hg : o.guard = none) (ho : o.op = .build InT #[(0, .const (.int .i64 k)), (2, x), (3, y)]) (hx : a.eval x = .int .i64 n) (hy : a.eval y = .int .i64 m)
    (h : wpList Tryd.prog ops Q rest (a.put o.dst (.agg (ienc ⟨k, noS, n, m⟩).toArray)) w) : wpList Tryd.prog ops Q (o :: rest) a w := by
  have e : ((#[(0, Operand.const (.int .i64 k)), (2, x), (3, y)] : Array (Nat × Operand)).map fun (i, x) => (i, a.eval x)).toList = [(0, .int .i64 k), (2, .int .i64 n), (3, .int .i64 m)] := by
    simp only [List.map_toArray, List.map_cons, List.map_nil, hx, hy]
    simp [Act.eval]
  have hb := Tryd.buildI_kab k n m
  rw [← e] at hb
  refine wpList_build hg InT _ ho ?_ ?_
  · rw [hb]; rfl
  · rw [hb]; exact h
theorem Tryd.stepSliceIn {i : In} (x : Operand) (hg : o.guard = none) (ho : o.op = .buildSlice 78 1 #[(0, x)]) (hx : a.eval x = .agg (ienc i).toArray)
    (h : wpList Tryd.prog ops Q rest (a.put o.dst (.slice (some ⟨w.heap.size, 0, none⟩) 1 1)) (w.alloc (.cells (ienc i).toArray InT))) : wpList Tryd.prog ops Q (o :: rest) a w := by
  have e : ((#[(0, x)] : Array (Nat × Operand)).map fun (i, x) => (i, a.eval x)).toList = [(0, .agg (ienc i).toArray)] := by
    simp only [List.map_toArray, List.map_cons, List.map_nil, hx]
  have hb := Tryd.buildIS i
  rw [← e] at hb
  exact Great.wpList_buildSliceTo hg 78 InT 1 _ ho w.heap.size rfl o.dst rfl Tryd.underlying78 (ienc i).toArray hb h
/-- A row of instructions that is one's own. -/
def InsO (w : World) (N : Nat) (v : Value) (p : List In) : Prop := w.ownsRow N InT 259 v p.length (p.flatMap ienc)
theorem Tryd.stepAppendIn {v : Value} {p : List In} {i : In} {N : Nat} (x y : Operand) (g : Nat) (hg : o.guard = none)
    (ho : o.op = .call { callee := .builtin .append, args := #[x, y], argTypes := #[78, 78] }) (hx : a.eval x = v) (hy : a.eval y = .slice (some ⟨g, 0, none⟩) 1 1) (hown : InsO w N v p) (hb : w.heap[g]? = some (.cells (ienc i).toArray InT (0, 0)))
    (hlen : p.length ≤ 100000) (hN : N ≤ w.heap.size)
    (h : ∀ v' w', InsO w' N v' (p ++ [i]) → w.grownBy w' v.ownBlock → (v'.ownBlock = v.ownBlock ∨ v'.ownBlock = some w.heap.size) → wpList Tryd.prog ops Q rest (a.put o.dst v') w') : wpList Tryd.prog ops Q (o :: rest) a w := by
  obtain ⟨i0, hi, hz0, hz1, hz2⟩ := info_parts Tryd.infoIns
  have hcs : (Value.agg (ienc ⟨0, noS, 0, 0⟩).toArray).cells.size = 259 := ienc_size _
  refine wpList_append_own_at _ hg x y 78 ho N InT i0 _ 259 280 Tryd.underlying78 hi hz0 hz1 hz2 hcs (by decide) v p.length (p.flatMap ienc) hx hown ⟨g, 0, none⟩ 1 1 (ienc i) hy (by rw [ienc_len]) ?_ (ienc_one i) (by unfold maxLen; omega) (by omega) hN ?_
  · intro j u hj
    rw [Addr.add_lit, Nat.zero_add, cell_of_row _ _ _ _ _ _ hb, List.getElem?_toArray]
    exact hj
  · intro v' w' ho' hgr _ hat
    refine h v' w' ?_ hgr hat
    unfold InsO
    rw [List.length_append, List.flatMap_append]
    simpa using ho'
theorem Tryd.stepBoxNd {z : ZNd} (x : Operand) (hg : o.guard = none) (ho : o.op = .box NdT x) (hx : a.eval x = .agg (nenc z).toArray)
    (h : ∀ W, NdB W w.heap.size z → W.heap.size = w.heap.size + 1 → Kp (fun _ => False) w W → wpList Tryd.prog ops Q rest (a.put o.dst (.pointer (some ⟨w.heap.size, 0, none⟩))) W) : wpList Tryd.prog ops Q (o :: rest) a w :=
  Great.wpList_boxTo hg NdT x ho o.dst rfl w.heap.size rfl (nenc z).toArray (by rw [hx]; rfl) (h _ (heap_new w _) (by simp) ((Kp.refl _ _).alloc _))
theorem Tryd.stepLoadNdMid {z : ZNd} (x : Operand) (b off : Nat) (hg : o.guard = none) (ho : o.op = .load NdT x) (hx : a.eval x = .pointer (some ⟨b, off, none⟩)) (hz : ∀ i u, (nenc z)[i]? = some u → w.cell? ⟨b, off + i, none⟩ = some u)
    (h : wpList Tryd.prog ops Q rest (a.put o.dst (.agg (nenc z).toArray)) w) : wpList Tryd.prog ops Q (o :: rest) a w := by
  obtain ⟨d, hd, hr⟩ := Tryd.ndRow
  exact wpList_load_mid hg NdT x ho b off hx (nenc z) d (fun j v hv => hz j v hv) hd hr (by rw [nenc_len]; exact Tryd.infoNd) h
theorem Tryd.infoAr4 : (Tryd.prog.info? 31).map (·.size) = some 256 := by kernel_rfl
theorem Tryd.arRow4 : ∃ d, Tryd.prog.underlying 31 = some d ∧ d.isRow = true := by
  have h : ((Tryd.prog.underlying 31).map (·.isRow)) = some true := by kernel_rfl
  cases hu : Tryd.prog.underlying 31 with
  | none => rw [hu] at h; cases h
  | some d => rw [hu] at h; exact ⟨d, rfl, by simpa using h⟩
theorem Tryd.stepLoadArN {z : ZNd} (x : Operand) (b : Nat) (hg : o.guard = none) (ho : o.op = .load 31 x) (hx : a.eval x = .pointer (some ⟨b, 2, none⟩)) (hz : NdB w b z)
    (h : wpList Tryd.prog ops Q rest (a.put o.dst (.agg (pbits z.2.set).toArray)) w) : wpList Tryd.prog ops Q (o :: rest) a w := by
  obtain ⟨d, hd, hr⟩ := Tryd.arRow4
  refine wpList_load_mid hg 31 x ho b 2 hx (pbits z.2.set) d (fun j v hv => ?_) hd hr (by rw [pbits_len]; exact Tryd.infoAr4) h
  have hj : j < 256 := by
    have := (List.getElem?_eq_some_iff.1 hv).1
    rw [pbits_len] at this
    exact this
  rw [hz.cs j hj]
  rw [← hv]
  simp [pbits, hj]
end
theorem NdB.c0 {w : World} {g : Nat} {z : ZNd} (h : NdB w g z) : w.cell? ⟨g, 0, none⟩ = some (.int .i64 z.2.kind) := by rw [cell_of_row w g 0 _ _ _ h, List.getElem?_toArray]; exact nenc_0 z
/-- A cell of an instruction that is one's own. -/
theorem InsO.cell {w : World} {N g n cap : Nat} {p : List In} (h : InsO w N (.slice (some ⟨g, 0, none⟩) n cap) p) {k : Nat} {i : In} (hk : p[k]? = some i) {j : Nat} (hj : j < 259) {u : Value} (hu : (ienc i)[j]? = some u) : w.cell? ⟨g, k * 259 + j, none⟩ = some u := by
  have := World.ownsRow.cells h (g := g) rfl (k * 259 + j) u (by rw [iflat_get hk j hj]; exact hu)
  rw [Addr.add_lit, Nat.zero_add] at this
  exact this
theorem InsO.frozen {w : World} {N g n cap : Nat} {p : List In} (h : InsO w N (.slice (some ⟨g, 0, none⟩) n cap) p) (j : Nat) : w.frozen? ⟨g, j, none⟩ = false := by
  rcases h.2 with ⟨h1, -⟩ | ⟨g', cap', cur, h1, h2, h3, h4⟩
  · cases h1
  · injection h1 with h1 h5 h6
    injection h1 with h1
    injection h1 with h1
    subst h1
    exact frozen_row h3
theorem InsO.len {w : World} {N n cap : Nat} {a : Option Addr} {p : List In} (h : InsO w N (.slice a n cap) p) : n = p.length := by
  rcases h.2 with ⟨h1, h0⟩ | ⟨g', cap', cur, h1, h2, h3, h4⟩
  · injection h1 with h1 h5 h6
    omega
  · injection h1
theorem InsO.putB {w : World} {N g n cap : Nat} {p : List In} (h : InsO w N (.slice (some ⟨g, 0, none⟩) n cap) p) {f : Nat} (hf : f < p.length) (v : Nat) : InsO (w.setCell ⟨g, f * 259 + 258, none⟩ (.int .i64 v)) N (.slice (some ⟨g, 0, none⟩) n cap) (putB p f v) := by
  have hn := h.len
  unfold InsO
  rw [putB_len, ← iflat_updB v p f hf, ← hn]
  unfold InsO at h
  rw [← hn] at h
  exact (World.ownsRow.stored h _ _).1
theorem InsO.putA {w : World} {N g n cap : Nat} {p : List In} (h : InsO w N (.slice (some ⟨g, 0, none⟩) n cap) p) {f : Nat} (hf : f < p.length) (v : Nat) : InsO (w.setCell ⟨g, f * 259 + 257, none⟩ (.int .i64 v)) N (.slice (some ⟨g, 0, none⟩) n cap) (putA p f v) := by
  have hn := h.len
  unfold InsO
  rw [putA_len, ← iflat_updA v p f hf, ← hn]
  unfold InsO at h
  rw [← hn] at h
  exact (World.ownsRow.stored h _ _).1
theorem InsO.kp {B : Nat → Prop} {w w' : World} {N : Nat} {v : Value} {p : List In} (h : InsO w N v p) (hk : Kp B w w') (hb : ∀ b, v.ownBlock = some b → N ≤ b → ¬ B b) : InsO w' N v p := own_kp h hk hb
/-- The kids of a node, one by one. -/
theorem NdOk.kids {B : Nat → Prop} {w : World} {v : Value} {k : Nat} {l : List RT} {S : UInt8 → Bool} (h : NdOk B w v (.node k l S)) : ∃ (a : Option Addr) (cap : Nat) (zs : List ZNd), v = .slice a l.length cap ∧ l.length ≤ cap ∧ cap ≤ 9223372036854775807 ∧ zs.map (·.2) = l ∧
    ∀ i (hi : i < zs.length), NdOk B w zs[i].1 zs[i].2 ∧ ∃ b off, a = some ⟨b, off, none⟩ ∧ ¬ B b ∧ b < w.heap.size ∧ ∀ j u, (nenc zs[i])[j]? = some u → w.cell? ⟨b, off + (i * 258 + j), none⟩ = some u := by
  cases h with
  | mk _ _ _ zs h hz =>
    obtain ⟨hs, hb⟩ := h
    obtain ⟨a, cap, rfl, hm, hn, hc⟩ := hs.split nenc_len
    refine ⟨a, cap, zs, by rw [List.length_map], by rw [List.length_map]; exact hm.1, hm.2, rfl, fun i hi => ⟨hz _ (List.getElem_mem hi), ?_⟩⟩
    obtain ⟨b, off, rfl, hd⟩ := hc i hi
    refine ⟨b, off, rfl, hb (by rintro rfl; simp at hi) b rfl, World.block_lt_of_cell? w _ (hd 0 _ (nenc_0 _)), hd⟩
end Go.Proofs.YtnnfhcbopchodaaDoor
namespace Go.Proofs.YtnnfhcbopchodaaDoor
open Go Go.RowKit
set_option linter.unusedVariables false
set_option linter.unusedSimpArgs false
set_option maxRecDepth 100000
/-- What emit leaves. -/
def EmQ (N : Nat) (v : Value) (w : World) (q : List In) (v' : Value) (w' : World) : Prop :=
  InsO w' N v' q ∧ Kp (fun b => v.ownBlock = some b) w w' ∧ ∀ b, v'.ownBlock = some b → v.ownBlock = some b ∨ w.heap.size ≤ b
theorem EmQ.refl {N : Nat} {v : Value} {w : World} {p : List In} (h : InsO w N v p) : EmQ N v w p v w := ⟨h, Kp.refl _ _, fun b hb => .inl hb⟩
theorem EmQ.trans {N : Nat} {v v1 v2 : Value} {w w1 w2 : World} {p q : List In} (h : EmQ N v w p v1 w1) (k : EmQ N v1 w1 q v2 w2) : EmQ N v w q v2 w2 :=
  ⟨k.1, h.2.1.trans_new k.2.1 (fun b hb => h.2.2 b hb), fun b hb => by
    rcases k.2.2 b hb with h1 | h1
    · exact h.2.2 b h1
    · exact .inr (Nat.le_trans h.2.1.size h1)⟩
/-- A step beside the row. -/
theorem EmQ.beside {N : Nat} {v v1 : Value} {w w1 w2 : World} {p : List In} {C : Nat → Prop} (h : EmQ N v w p v1 w1) (k : Kp C w1 w2) (hc : ∀ b, C b → w.heap.size ≤ b ∧ v1.ownBlock ≠ some b) : EmQ N v w p v1 w2 :=
  ⟨h.1.kp k (fun b hb _ hC => (hc b hC).2 hb), h.2.1.trans_new k (fun b hb => .inr (hc b hb).1), h.2.2⟩
/-- A row that is appended to. -/
theorem EmQ.app {N : Nat} {v v' : Value} {w X w' : World} {q : List In} (hX : Below w.heap.size w X) (ho : InsO w' N v' q) (hg : X.grownBy w' v.ownBlock) (hat : v'.ownBlock = v.ownBlock ∨ v'.ownBlock = some X.heap.size) : EmQ N v w q v' w' :=
  ⟨ho, (Kp.of_below hX).trans (Kp.of_grown hg (fun b hb => hb)), fun b hb => by
    rcases hat with h | h
    · exact .inl (by rw [← h]; exact hb)
    · rw [h] at hb
      injection hb with hb
      have := hX.size
      exact .inr (by omega)⟩
theorem EmQ.push {N : Nat} {v v1 v' : Value} {w w1 w' : World} {p q : List In} {o : Obj} (h : EmQ N v w p v1 w1) (ho : InsO w' N v' q) (hg : (w1.alloc o).grownBy w' v1.ownBlock) (hat : v'.ownBlock = v1.ownBlock ∨ v'.ownBlock = some (w1.alloc o).heap.size) : EmQ N v w q v' w' :=
  h.trans (EmQ.app ((Below.refl _ _).alloc (Nat.le_refl _) _) ho hg hat)
/-- What lies beside the row lies beside what becomes of it. -/
theorem EmQ.nd {N : Nat} {v v' : Value} {w w' : World} {q : List In} (h : EmQ N v w q v' w') {B : Nat → Prop} {z : Value} {t : RT} (hz : NdOk (fun b => v.ownBlock = some b ∨ B b) w z t) : NdOk (fun b => v'.ownBlock = some b ∨ B b) w' z t :=
  ((hz.new).kp_of h.2.1 (fun b hb => .inl (.inl hb))).mono (fun b hb => by
    rcases hb with hb | hb
    · rcases h.2.2 b hb with h1 | h1
      · exact .inl (.inl h1)
      · exact .inr h1
    · exact .inl (.inr hb))
theorem EmQ.blk {N : Nat} {v v' : Value} {w w' : World} {q : List In} (h : EmQ N v w q v' w') {g : Nat} (hg : g < w.heap.size) (hne : v.ownBlock ≠ some g) : v'.ownBlock ≠ some g := fun e => by
  rcases h.2.2 g e with h1 | h1
  · exact hne h1
  · omega
theorem costsT_take : ∀ (l : List RT) (j : Nat) (h : j < l.length), costsT (l.take j) + (2 + costT l[j]) ≤ costsT l
  | [], j, h => by simp at h
  | a :: r, 0, h => by
    rw [List.take_zero, costsT, costsT]
    show 0 + (2 + costT a) ≤ _
    omega
  | a :: r, j + 1, h => by
    have h' : j < r.length := by simpa using h
    have ih := costsT_take r j h'
    rw [List.take_succ_cons, costsT, costsT]
    show 2 + costT a + costsT (r.take j) + (2 + costT r[j]) ≤ _
    omega
theorem catP_snoc (a : RT) : ∀ (l : List RT) (p : List In), catP p (l ++ [a]) = emitP (catP p l) a
  | [], p => by rw [List.nil_append, catP, catP, catP]
  | b :: r, p => by rw [List.cons_append, catP, catP, catP_snoc a r]
/-- A kid of a node, where it lies. -/
theorem NdOk.kid {B : Nat → Prop} {w : World} {ak : Option Addr} {n capk k : Nat} {kids : List RT} {S : UInt8 → Bool} (h : NdOk B w (.slice ak n capk) (.node k kids S)) {j : Nat} (hj : j < kids.length) :
    ∃ z b off, ak = some ⟨b, off, none⟩ ∧ ¬ B b ∧ b < w.heap.size ∧ NdOk B w z kids[j] ∧ ∀ i u, (nenc (z, kids[j]))[i]? = some u → w.cell? ⟨b, off + j * 258 + i, none⟩ = some u := by
  obtain ⟨a2, c2, zs, hv, -, -, hzs, hkid⟩ := h.kids
  have hlen : zs.length = kids.length := by rw [← hzs, List.length_map]
  obtain ⟨h1, b, off, h2, h3, h4, h5⟩ := hkid j (by omega)
  injection hv with hv1 hv2 hv3
  have he : zs[j].2 = kids[j] := by
    subst hzs
    rw [List.getElem_map]
  refine ⟨zs[j].1, b, off, by rw [hv1]; exact h2, h3, h4, by rw [← he]; exact h1, fun i u hu => ?_⟩
  rw [Nat.add_assoc]
  refine h5 i u ?_
  rw [← he] at hu
  exact hu
/-- emit, of a tree: the contract. -/
def EmC (t : RT) : Prop := ∀ (z1 v : Value) (p : List In) (N : Nat) (w : World), N ≤ w.heap.size → InsO w N v p → NdOk (fun b => v.ownBlock = some b ∨ False) w z1 t → p.length + costT t ≤ 50000 →
  Calls Tryd.prog 30 #[v, .agg (nenc (z1, t)).toArray] w fun e w' => ∃ v', e = .returned v' ∧ EmQ N v w (emitP p t) v' w'
theorem InsO.bd {w : World} {N : Nat} {v : Value} {p : List In} (h : InsO w N v p) {b : Nat} (hb : v.ownBlock = some b) : N ≤ b ∧ b < w.heap.size := own_bd h hb
set_option maxHeartbeats 4000000 in
theorem emit_3 (k : Nat) (hk : k = 3) (kids : List RT) (S : UInt8 → Bool) : EmC (.node k kids S) := by
  intro z1 v p N w hN ho hz hc
  obtain ⟨a, cap, rfl⟩ := own_slice ho
  have hpl : p.length ≤ 100000 := by omega
  have e3 : ((k : Int) == 3) = true := by rw [hk]; rfl
  have HO := Lib.hid ho
  have HN := Lib.hid hN
  have HQ := Lib.hid (show emitP p (.node k kids S) = p ++ [⟨1, S, 0, 0⟩] by rw [emitP, if_pos hk])
  rw [HQ.out]
  clear ho hz hc hk hN
  go_enter Tryd.func30, Tryd.ntmps30
  go_wp2_with (first
    | (refine Tryd.stepBoxNd (z := (z1, .node k kids S)) (.tmp 1) rfl rfl rfl ?_
       intro W1 p1 s1 k1
       have c0 : W1.cell? ⟨w.heap.size, 0, none⟩ = some (.int .i64 (k : Int)) := p1.c0
       have HP1 := Lib.hid p1
       have HK1 := Lib.hid k1
       have HE1 := Lib.hid ((EmQ.refl HO.out).beside k1 (fun _ h => h.elim))
       have HS1 := Lib.hid s1
       clear p1 s1 k1)
    | (refine Tryd.stepLoadArN (z := (z1, .node k kids S)) (.tmp 18) w.heap.size rfl rfl rfl HP1.out ?_)
    | (refine Tryd.stepBuildI_ks 1 S (.tmp 19) rfl rfl rfl ?_)
    | (refine Tryd.stepSliceIn (i := ⟨1, S, 0, 0⟩) (.tmp 20) rfl rfl rfl ?_)
    | (refine Tryd.stepAppendIn (v := .slice a p.length cap) (p := p) (i := ⟨1, S, 0, 0⟩) (N := N) (.tmp 17) (.tmp 21) W1.heap.size rfl rfl rfl rfl (World.ownsRow.alloc HE1.out.1 _) (heap_new W1 _) hpl (by have := HN.out; have := HS1.out; simp; omega) ?_
       intro v' w3 hown hgrow hat
       have HF := Lib.hid (HE1.out.push hown hgrow hat)
       clear hown hgrow hat))
  go_wp2_with fail
  first | go_values | go_simp
  go_ret
  exact ⟨_, rfl, HF.out⟩
set_option maxHeartbeats 4000000 in
theorem emit_1 (k : Nat) (hk : k = 1) (kids : List RT) (S : UInt8 → Bool) (HK : ∀ t ∈ kids, EmC t) : EmC (.node k kids S) := by
  intro z1 v p N w hN ho hz hc
  obtain ⟨ak, capk, zs, rfl, -, -, -, -⟩ := hz.kids
  obtain ⟨a, cap, rfl⟩ := own_slice ho
  have e3 : ((k : Int) == 3) = false := by rw [hk]; rfl
  have e1 : ((k : Int) == 1) = true := by rw [hk]; rfl
  have HO := Lib.hid ho
  have HN := Lib.hid hN
  have HZ := Lib.hid hz
  have hkl : kids.length ≤ 100000 := by
    have : ∀ l : List RT, l.length ≤ costsT l := by
      intro l
      induction l with
      | nil => exact Nat.zero_le _
      | cons a r ih => rw [costsT, List.length_cons]; omega
    have := this kids
    rw [costT] at hc
    omega
  have HC := Lib.hid (show p.length + costsT kids ≤ 50000 by rw [costT] at hc; omega)
  have HQ := Lib.hid (show emitP p (.node k kids S) = catP p kids by rw [emitP, if_neg (by omega), if_pos hk])
  have HKS := Lib.hid HK
  rw [HQ.out]
  clear ho hz hc hk hN HK
  obtain ⟨n, hn⟩ : ∃ n, w.heap.size = n := ⟨_, rfl⟩
  have HNN := Lib.hid hn
  clear hn
  go_enter Tryd.func30, Tryd.ntmps30
  go_wp2_with (first
    | (refine Tryd.stepBoxNd (z := (.slice ak kids.length capk, .node k kids S)) (.tmp 1) rfl rfl rfl ?_
       intro W1 p1 s1 k1
       rw [HNN.out] at p1 ⊢
       have c0 : W1.cell? ⟨n, 0, none⟩ = some (.int .i64 (k : Int)) := p1.c0
       have HP1 := Lib.hid p1
       have HK1 := Lib.hid k1
       clear p1 s1 k1))
  have HE1 := Lib.hid ((EmQ.refl HO.out).beside HK1.out (fun _ h => h.elim))
  have HZ1 := Lib.hid (show NdOk (fun b => (Value.slice a p.length cap).ownBlock = some b ∨ b = n) W1 (.slice ak kids.length capk) (.node k kids S) from ((HZ.out.new).kp_of HK1.out (fun _ h => h.elim)).mono (fun b hb => by
    rcases hb with hb | hb
    · exact .inl (.inl hb)
    · exact .inr (by have := HNN.out; omega)))
  have HB1 := Lib.hid (show (Value.slice a p.length cap).ownBlock ≠ some n from fun e => by have := (HO.out.bd e).2; have := HNN.out; omega)
  go_loopw [0, 6] (fun v0 i wr => ∃ j : Nat, i = .int .i64 j ∧ j ≤ kids.length ∧ Hid (EmQ N (.slice a p.length cap) w (catP p (kids.take j)) v0 wr) ∧ Hid (NdB wr n (.slice ak kids.length capk, .node k kids S)) ∧ Hid (NdOk (fun b => v0.ownBlock = some b ∨ b = n) wr (.slice ak kids.length capk) (.node k kids S)) ∧ Hid (v0.ownBlock ≠ some n)) (fun _ i _ => kids.length - (intOf i).toNat)
  case atStart => exact ⟨0, rfl, Nat.zero_le _, by rw [List.take_zero, catP]; exact HE1.out, HP1.out, HZ1.out, HB1.out⟩
  case round =>
    obtain ⟨j, rfl, hj, HE, HP, HNO, HB⟩ := hrel
    have c1 : wr.cell? ⟨n, 1, none⟩ = some (.slice ak kids.length capk) := HP.out.c1
    clear HE1 HZ1 HB1 HP1 HK1 HZ c0
    by_cases hlt : j < kids.length
    · obtain ⟨z, b, off, rfl, hb1, hb2, hzk, hcells⟩ := HNO.out.kid hlt
      have HCE := Lib.hid hcells
      have HCALL := Lib.hid (HKS.out kids[j] (List.getElem_mem hlt) z u0 (catP p (kids.take j)) N wr (Nat.le_trans HN.out HE.out.2.1.size) HE.out.1 (hzk.mono (fun b hb => by
        rcases hb with h | h
        · exact .inl h
        · exact h.elim)) (by
        have h1 := (catP_len (kids.take j) p).2
        have h2 := costsT_take kids j hlt
        have h3 := HC.out
        omega))
      have HTK := Lib.hid (show emitP (catP p (kids.take j)) kids[j] = catP p (kids.take (j + 1)) by rw [List.take_succ_eq_append_getElem hlt, catP_snoc])
      rw [HTK.out] at HCALL
      clear hzk hcells hb1 hb2
      go_wp2_with (first
        | (refine Tryd.stepLoadNdMid (z := (z, kids[j])) (.tmp 36) b (off + j * 258) rfl rfl rfl HCE.out ?_))
      refine HCALL.out.mono ?_
      rintro e w2 ⟨v', rfl, hq⟩
      have HQ2 := Lib.hid hq
      clear hq
      go_wp2_with fail
      go_roundw
      case rel => exact ⟨j + 1, by go_num, by omega, HE.out.trans HQ2.out, HP.out.kp HQ2.out.2.1 (fun e => HB.out e), HQ2.out.nd HNO.out, HQ2.out.blk HP.out.lt HB.out⟩
      case measure => simp [intOf]; omega
    · obtain rfl : j = kids.length := by omega
      go_wp2_with fail
      go_ret
      refine ⟨_, rfl, ?_⟩
      have := HE.out
      rw [List.take_length] at this
      exact this
end Go.Proofs.YtnnfhcbopchodaaDoor
