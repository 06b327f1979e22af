/- Bytes in brackets: the walk. (Printed by gen_gr5.py.) One piece: the walk. (Several texts in one file, by merge.py.) -/
import Derived.Test.YtnnfhcbopchodaaDoorZN2
import Derived.Deep.DeepCutAuto
import Derived.Deep.Cut
import Derived.Deep.CutRange
import Derived.Deep.CutBlock
namespace Go.Proofs.YtnnfhcbopchodaaDoor
open Go Go.RowKit
set_option linter.unusedVariables false
set_option linter.unusedSimpArgs false
set_option maxRecDepth 100000
def rngTo (g : UInt8 → Bool) (c : UInt8) (k : Nat) : UInt8 → Bool := fun y => if c ≤ y ∧ y.toNat < k then isG y else g y
theorem rngTo_start (g : UInt8 → Bool) (c : UInt8) : rngTo g c c.toNat = g := by
  funext y
  unfold rngTo
  rw [if_neg]
  rintro ⟨h1, h2⟩
  have := UInt8.le_iff_toNat_le.1 h1
  omega
theorem rngTo_step (g : UInt8 → Bool) (c : UInt8) (k : Nat) (hk : c.toNat ≤ k) (h2 : k < 256) : rngTo g c (k + 1) = fun y => if y = UInt8.ofNat k then isG (UInt8.ofNat k) else rngTo g c k y := by
  funext y
  unfold rngTo
  by_cases h : y = UInt8.ofNat k
  · rw [if_pos h, h, if_pos]
    rw [UInt8.le_iff_toNat_le, UInt8.toNat_ofNat', Nat.mod_eq_of_lt h2]
    omega
  · rw [if_neg h]
    have hne : y.toNat ≠ k := fun e => h (by rw [← e]; simp)
    by_cases h3 : c ≤ y ∧ y.toNat < k
    · rw [if_pos h3, if_pos ⟨h3.1, by omega⟩]
    · rw [if_neg h3, if_neg (fun h4 => h3 ⟨h4.1, by omega⟩)]
theorem rngTo_end (g : UInt8 → Bool) (c hi : UInt8) : rangeS g c hi = rngTo g c (hi.toNat + 1) := by
  funext y
  unfold rngTo rangeS
  by_cases h : c ≤ y ∧ y ≤ hi
  · rw [if_pos h, if_pos ⟨h.1, by have := UInt8.le_iff_toNat_le.1 h.2; omega⟩]
  · rw [if_neg h, if_neg (fun h2 => h ⟨h2.1, UInt8.le_iff_toNat_le.2 (by omega)⟩)]
def ClJ (s : ByteArray) (rb n : Nat) (w : World) (R : Except Nat (Pc × Nat)) (a : Act) (W : World) : Prop :=
  ∃ (ai f : Nat) (fst : Bool) (g : UInt8 → Bool) (u : Nat → Value), a = { tmps := #[.pointer (some ⟨rb, 0, none⟩), u 1, .pointer (some ⟨n, 0, none⟩), .pointer (some ⟨n + 1, 0, none⟩), .bool fst, u 5, u 6, u 7, u 8, u 9, u 10, u 11, u 12, u 13, u 14, u 15, u 16, u 17, u 18, u 19, u 20, u 21, u 22, u 23, u 24, u 25, u 26, u 27, u 28, u 29, u 30, u 31, u 32, u 33, u 34, u 35, u 36, u 37, u 38, u 39, u 40, u 41, u 42, u 43, u 44, u 45, u 46, u 47, u 48, u 49, u 50, u 51, u 52, u 53, u 54, u 55, u 56, u 57, u 58, u 59, u 60, u 61, u 62, u 63, u 64, u 65, u 66, u 67, u 68, u 69, u 70, u 71, u 72, u 73, u 74, u 75, u 76, u 77, u 78, u 79, u 80, u 81, u 82, u 83, u 84, u 85, u 86, u 87, u 88, u 89, u 90, u 91, u 92, u 93, u 94, u 95, u 96, u 97, u 98, u 99, u 100, u 101, u 102, u 103, u 104, u 105, u 106, u 107, u 108, u 109, u 110, u 111, u 112, u 113, u 114, u 115, u 116, u 117, u 118, u 119, u 120, u 121, u 122, u 123, u 124, u 125, u 126, u 127, u 128, u 129, u 130, u 131, u 132, u 133, u 134, u 135, u 136, u 137, u 138, u 139, u 140, u 141, u 142, u 143, u 144, u 145, u 146, u 147, u 148, u 149, u 150, u 151, u 152, u 153, u 154, u 155, u 156, u 157, u 158], defers := [] } ∧
    RB W rb s ai (-1) ∧ ai ≤ s.size ∧ s.size < ai + f ∧ n + 2 ≤ W.heap.size ∧ Kp (· = rb) w W ∧ PcB W n (zP 0) ∧ PcB W (n + 1) (.slice none 0 0, setP g) ∧ clG s.data.toList f ai fst g = R
theorem ClJ.mk {s : ByteArray} {rb n : Nat} {w W : World} {R : Except Nat (Pc × Nat)} {A : Array Value} (ai f : Nat) (fst : Bool) (g : UInt8 → Bool) (hA : A = #[.pointer (some ⟨rb, 0, none⟩), A.getD 1 undef, .pointer (some ⟨n, 0, none⟩), .pointer (some ⟨n + 1, 0, none⟩), .bool fst, A.getD 5 undef, A.getD 6 undef, A.getD 7 undef, A.getD 8 undef, A.getD 9 undef, A.getD 10 undef, A.getD 11 undef, A.getD 12 undef, A.getD 13 undef, A.getD 14 undef, A.getD 15 undef, A.getD 16 undef, A.getD 17 undef, A.getD 18 undef, A.getD 19 undef, A.getD 20 undef, A.getD 21 undef, A.getD 22 undef, A.getD 23 undef, A.getD 24 undef, A.getD 25 undef, A.getD 26 undef, A.getD 27 undef, A.getD 28 undef, A.getD 29 undef, A.getD 30 undef, A.getD 31 undef, A.getD 32 undef, A.getD 33 undef, A.getD 34 undef, A.getD 35 undef, A.getD 36 undef, A.getD 37 undef, A.getD 38 undef, A.getD 39 undef, A.getD 40 undef, A.getD 41 undef, A.getD 42 undef, A.getD 43 undef, A.getD 44 undef, A.getD 45 undef, A.getD 46 undef, A.getD 47 undef, A.getD 48 undef, A.getD 49 undef, A.getD 50 undef, A.getD 51 undef, A.getD 52 undef, A.getD 53 undef, A.getD 54 undef, A.getD 55 undef, A.getD 56 undef, A.getD 57 undef, A.getD 58 undef, A.getD 59 undef, A.getD 60 undef, A.getD 61 undef, A.getD 62 undef, A.getD 63 undef, A.getD 64 undef, A.getD 65 undef, A.getD 66 undef, A.getD 67 undef, A.getD 68 undef, A.getD 69 undef, A.getD 70 undef, A.getD 71 undef, A.getD 72 undef, A.getD 73 undef, A.getD 74 undef, A.getD 75 undef, A.getD 76 undef, A.getD 77 undef, A.getD 78 undef, A.getD 79 undef, A.getD 80 undef, A.getD 81 undef, A.getD 82 undef, A.getD 83 undef, A.getD 84 undef, A.getD 85 undef, A.getD 86 undef, A.getD 87 undef, A.getD 88 undef, A.getD 89 undef, A.getD 90 undef, A.getD 91 undef, A.getD 92 undef, A.getD 93 undef, A.getD 94 undef, A.getD 95 undef, A.getD 96 undef, A.getD 97 undef, A.getD 98 undef, A.getD 99 undef, A.getD 100 undef, A.getD 101 undef, A.getD 102 undef, A.getD 103 undef, A.getD 104 undef, A.getD 105 undef, A.getD 106 undef, A.getD 107 undef, A.getD 108 undef, A.getD 109 undef, A.getD 110 undef, A.getD 111 undef, A.getD 112 undef, A.getD 113 undef, A.getD 114 undef, A.getD 115 undef, A.getD 116 undef, A.getD 117 undef, A.getD 118 undef, A.getD 119 undef, A.getD 120 undef, A.getD 121 undef, A.getD 122 undef, A.getD 123 undef, A.getD 124 undef, A.getD 125 undef, A.getD 126 undef, A.getD 127 undef, A.getD 128 undef, A.getD 129 undef, A.getD 130 undef, A.getD 131 undef, A.getD 132 undef, A.getD 133 undef, A.getD 134 undef, A.getD 135 undef, A.getD 136 undef, A.getD 137 undef, A.getD 138 undef, A.getD 139 undef, A.getD 140 undef, A.getD 141 undef, A.getD 142 undef, A.getD 143 undef, A.getD 144 undef, A.getD 145 undef, A.getD 146 undef, A.getD 147 undef, A.getD 148 undef, A.getD 149 undef, A.getD 150 undef, A.getD 151 undef, A.getD 152 undef, A.getD 153 undef, A.getD 154 undef, A.getD 155 undef, A.getD 156 undef, A.getD 157 undef, A.getD 158 undef])
    (h : RB W rb s ai (-1) ∧ ai ≤ s.size ∧ s.size < ai + f ∧ n + 2 ≤ W.heap.size ∧ Kp (· = rb) w W ∧ PcB W n (zP 0) ∧ PcB W (n + 1) (.slice none 0 0, setP g) ∧ clG s.data.toList f ai fst g = R) : ClJ s rb n w R { tmps := A, defers := [] } W :=
  ⟨ai, f, fst, g, fun i => A.getD i undef, congrArg (fun t => ({ tmps := t, defers := [] } : Act)) hA, h⟩
set_option maxHeartbeats 8000000 in
theorem class_any (rb : Nat) (s : ByteArray) (at' : Nat) (w : World) (h : RB w rb s at' (-1)) (hat : at' < s.size) (hs : s.size ≤ 4096) :
    Calls Tryd.prog 65 #[.pointer (some ⟨rb, 0, none⟩)] w fun e w' => PcPost s rb w (clG s.data.toList (s.size + 1) (at' + 1) true (fun _ => false)) e w' := by
  have HR := Lib.hid h
  have HL := Lib.hid (heap_lt h)
  obtain ⟨n, hn⟩ : ∃ n, w.heap.size = n := ⟨_, rfl⟩
  have HN := Lib.hid hn
  obtain ⟨R, hR⟩ : ∃ R, clG s.data.toList (s.size + 1) (at' + 1) true (fun _ => false) = R := ⟨_, rfl⟩
  rw [hR]
  have HRR := Lib.hid hR
  clear h hn hR
  go_enter Tryd.func65, Tryd.ntmps65
  go_wp2_with (refine Tryd.stepAllocPc (n := n) rfl rfl HN.out ?_; intro W1 p1 z1 k1)
  refine wp_jump_fall 0 (ClJ s rb n w R) (fun a W => 5000 - atOf W rb) rfl ?_ ?_
  · intro hfall
    have HF := Lib.hid hfall
    clear hfall
    have HP1 := Lib.hid p1
    have HZ1 := Lib.hid z1
    have HR1 := Lib.hid (HR.out.kp k1 (fun h => h))
    have HK1 := Lib.hid k1
    clear p1 z1 k1
    go_wp2_with (first
      | (refine Tryd.stepBuildK 1 rfl rfl ?_)
      | (refine Tryd.stepAllocPc (n := n + 1) rfl rfl HZ1.out ?_; intro W2 p2 z2 k2)
      | (refine Tryd.stepStorePc (z' := zP 1) (.tmp 3) (.tmp 13) (n + 1) rfl rfl rfl rfl p2 rfl ?_
         intro W3 p3 z3 k3
         have HK3 := Lib.hid (((HK1.out.mono (C := (· = rb)) (fun _ _ h => h.elim)).trans (k2.mono (C := (· = rb)) (fun _ _ h => h.elim))).trans_new k3 (fun b hb => .inr (by have := HN.out; omega)))
         have HR3 := Lib.hid ((HR1.out.kp k2 (fun h => h)).kp k3 (by have := HN.out; have := HL.out; omega))
         have HP3 := Lib.hid p3
         have HQ3 := Lib.hid ((HP1.out.kp k2 (fun h => h)).kp k3 (by omega))
         have HZ3 := Lib.hid (show W3.heap.size = n + 2 by omega)
         clear p2 z2 k2 p3 z3 k3
         have c1 := HR3.out.c1
         have f1 := HR3.out.fz 1))
    go_step3
    rename_i hK
    refine hK _ _ (HF.out _ _ (ClJ.mk (at' + 1) (s.size + 1) true (fun _ => false) ?_ ⟨HR3.out.put1 _, hat, by omega, ?_, HK3.out.setCell (.inl rfl) _, ?_, ?_, HRR.out⟩))
    · rfl
    · show n + 2 ≤ (W3.setCell _ _).heap.size
      simp [HZ3.out]
    · exact HQ3.out.kp ((Kp.refl (· = rb) W3).setCell (p := ⟨rb, 1, none⟩) (.inl rfl) _) (by have := HN.out; have := HL.out; omega)
    · exact HP3.out.kp ((Kp.refl (· = rb) W3).setCell (p := ⟨rb, 1, none⟩) (.inl rfl) _) (by have := HN.out; have := HL.out; omega)
  · rintro a W ⟨ai, f, fst, g, u, rfl, hr, has, hf, hz, hk, hp0, hp1, hval⟩
    have hne : rb ≠ n ∧ rb ≠ n + 1 ∧ rb < n := by have := HN.out; have := HL.out; omega
    obtain ⟨f, rfl⟩ : ∃ k, f = k + 1 := ⟨f - 1, by omega⟩
    have HRW := Lib.hid hr
    have HZW := Lib.hid hz
    have HKW := Lib.hid hk
    have HP0 := Lib.hid hp0
    have HP1 := Lib.hid hp1
    have HV := Lib.hid hval
    clear hr hz hk hp0 hp1 hval
    by_cases hlt : ai < s.size
    · obtain ⟨c, hc⟩ : ∃ c, c = bAt s ai := ⟨_, rfl⟩
      obtain ⟨d, hd⟩ : ∃ d, d = bAt s (ai + 1) := ⟨_, rfl⟩
      obtain ⟨mo, hmo⟩ : ∃ mo, mo = decide (ai + 1 < s.size) := ⟨_, rfl⟩
      have hget := bAt_some hlt
      have hnx : s.data.toList[ai + 1]? = if mo = true then some d else none := by
        rw [hmo, hd]
        by_cases h1 : ai + 1 < s.size
        · rw [bAt_some h1]; simp [h1]
        · rw [bAt_none (by omega)]; simp [h1]
      rw [← hc] at hget
      have HBY0 := Lib.hid (byte0_some rb s ai W HRW.out hs hlt)
      rw [← hc] at HBY0
      have HBY1 := Lib.hid (fun m => byte1_any rb s ai (W.drewN m) (HRW.out.drewN m) hs (by omega))
      rw [← hd, ← hmo] at HBY1
      have HC := Lib.hid hc
      have HD := Lib.hid hd
      have HMO := Lib.hid hmo
      clear hc hd hmo
      have hv := HV.out
      unfold clG classG at hv
      simp only [hget, hnx] at hv
      have HNX := Lib.hid hnx
      clear hget hnx
      have e93 : ((c.toNat : Int) == 93) = (c == 93) := gu8_eq c 93 (by decide)
      have e45 : ((c.toNat : Int) == 45) = (c == 45) := gu8_eq c 45 (by decide)
      have d93 : ((d.toNat : Int) == 93) = (d == 93) := gu8_eq d 93 (by decide)
      have d45 : ((d.toNat : Int) == 45) = (d == 45) := gu8_eq d 45 (by decide)
      have HVV := Lib.hid hv
      clear hv
      go_wp2_with fail
      refine HBY0.out.mono ?_
      rintro e w1 ⟨rfl, m, rfl⟩
      go_wp2_with fail
      refine (HBY1.out _).mono ?_
      rintro e w1 ⟨rfl, m2, rfl⟩
      have HR0 := Lib.hid (show RB ((W.drewN m).drewN m2) rb s ai (-1) from HRW.out)
      have HK0 := Lib.hid (show Kp (· = rb) w ((W.drewN m).drewN m2) from (HKW.out.drewN m).drewN m2)
      have HQ0 := Lib.hid (show PcB ((W.drewN m).drewN m2) n (zP 0) from HP0.out)
      have HQ1 := Lib.hid (show PcB ((W.drewN m).drewN m2) (n + 1) (.slice none 0 0, setP g) from HP1.out)
      have HZ0 := Lib.hid (show n + 2 ≤ ((W.drewN m).drewN m2).heap.size from HZW.out)
      obtain ⟨W0, hW0⟩ : ∃ W0, W0 = (W.drewN m).drewN m2 := ⟨_, rfl⟩
      rw [← hW0] at HR0 HK0 HQ0 HQ1 HZ0 ⊢
      clear hW0
      go_upto_block 0 with fail
      go_cut [4] (fun s4 wx => s4 = .bool fst ∧ wx = W0 ∧ isG c = true ∧ (c = 45 → fst = false → (if mo = true then some d else none) = some 93))
      case first =>
        by_cases h93 : c = 93
        · cases fst with
          | false =>
            have HRE := Lib.hid (show R = .ok (setP g, ai + 1) by rw [← HVV.out, if_pos ⟨h93, rfl⟩])
            have b93 : (c == 93) = true := by simpa using h93
            rw [b93] at e93
            clear b93 h93
            have c1 := HR0.out.c1
            have f1 := HR0.out.fz 1
            go_wp2_with (first
              | (refine Tryd.stepLoadPc (z := (.slice none 0 0, setP g)) (.tmp 3) (n + 1) rfl rfl rfl (HQ1.out.kp ((Kp.refl (· = rb) W0).setCell (p := ⟨rb, 1, none⟩) (.inl rfl) _) (Ne.symm hne.2.1)) ?_)
              | (refine Tryd.stepStorePc (z := zP 0) (z' := (.slice none 0 0, setP g)) (.tmp 2) (.tmp 56) n rfl rfl rfl rfl (HQ0.out.kp ((Kp.refl (· = rb) W0).setCell (p := ⟨rb, 1, none⟩) (.inl rfl) _) (Ne.symm hne.1)) rfl ?_
                 intro W3 p3 z3 k3))
            simp only [Exit.jump]
            refine bodyPost_ret (Tryd.resultPc rfl rfl p3) rfl ⟨(.slice none 0 0, setP g), ai + 1, -1, rfl, (HR0.out.put1 (ai + 1)).kp k3 (by omega), by omega, (HK0.out.setCell (p := ⟨rb, 1, none⟩) (.inl rfl) _).trans_new k3 (fun b hb => .inr (by have := HN.out; omega)), SlA.nil _ _, ?_⟩
            rw [HRE.out]
            exact ⟨rfl, rfl, rfl⟩
          | true =>
            have hg : isG c = false := by rw [h93]; decide
            have HRE := Lib.hid (show R = .error ai by rw [← HVV.out, if_neg (by simp), if_pos (.inl hg)])
            have b93 : (c == 93) = true := by simpa using h93
            rw [b93] at e93
            clear b93 h93
            have HIS := Lib.hid (gis_c c false hg)
            have c1 := HR0.out.c1
            clear hg
            go_wp2_with fail
            refine (HIS.out _).mono ?_
            rintro e w1 ⟨rfl, rfl⟩
            go_wp2_with fail
            refine (fail_any rb s ai ai _ HR0.out).mono ?_
            rintro e w2 ⟨rfl, hr2, hk2⟩
            have HR2 := Lib.hid hr2
            have HK2 := Lib.hid (HK0.out.trans hk2)
            have HA0 := Lib.hid (HQ0.out.kp hk2 (Ne.symm hne.1))
            have HA1 := Lib.hid (HQ1.out.kp hk2 (Ne.symm hne.2.1))
            clear hr2 hk2
            go_wp2_with (first
              | (refine Tryd.stepLoadPc (z := (.slice none 0 0, setP g)) (.tmp 3) (n + 1) rfl rfl rfl HA1.out ?_)
              | (refine Tryd.stepStorePc (z := zP 0) (z' := (.slice none 0 0, setP g)) (.tmp 2) (.tmp 83) n rfl rfl rfl rfl HA0.out rfl ?_
                 intro W3 p3 z3 k3))
            simp only [Exit.jump]
            refine bodyPost_ret (Tryd.resultPc rfl rfl p3) rfl ⟨(.slice none 0 0, setP g), ai, ai, rfl, HR2.out.kp k3 (by omega), by omega, HK2.out.trans_new k3 (fun b hb => .inr (by have := HN.out; omega)), SlA.nil _ _, ?_⟩
            rw [HRE.out]
            exact rfl
        · have b93 : (c == 93) = false := by simpa using h93
          rw [b93] at e93
          by_cases hg : isG c = true
          · by_cases h45 : c = 45
            · have b45 : (c == 45) = true := by simpa using h45
              rw [b45] at e45
              cases fst with
              | true =>
                have hpass : isG c = true ∧ (c = 45 → true = false → (if mo = true then some d else none) = some 93) := ⟨hg, fun _ h => by cases h⟩
                clear b93 b45 h45 h93
                have HIS := Lib.hid (gis_c c true hg)
                have HPP := Lib.hid hpass
                clear hg hpass
                go_wp2_with fail
                refine (HIS.out _).mono ?_
                rintro e w1 ⟨rfl, rfl⟩
                go_wp2_with fail
                go_meet
                exact ⟨rfl, rfl, HPP.out⟩

              | false =>
                cases mo with
                | false =>
                  have HRE := Lib.hid (show R = .error ai by rw [← HVV.out, if_neg (fun h => h93 h.1), if_pos (.inr ⟨h45, rfl, by simp⟩)])
                  clear b93 b45 h45 h93
                  have HIS := Lib.hid (gis_c c true hg)
                  have c1 := HR0.out.c1
                  clear hg
                  go_wp2_with fail
                  refine (HIS.out _).mono ?_
                  rintro e w1 ⟨rfl, rfl⟩
                  go_wp2_with fail
                  refine (fail_any rb s ai ai _ HR0.out).mono ?_
                  rintro e w2 ⟨rfl, hr2, hk2⟩
                  have HR2 := Lib.hid hr2
                  have HK2 := Lib.hid (HK0.out.trans hk2)
                  have HA0 := Lib.hid (HQ0.out.kp hk2 (Ne.symm hne.1))
                  have HA1 := Lib.hid (HQ1.out.kp hk2 (Ne.symm hne.2.1))
                  clear hr2 hk2
                  go_wp2_with (first
                    | (refine Tryd.stepLoadPc (z := (.slice none 0 0, setP g)) (.tmp 3) (n + 1) rfl rfl rfl HA1.out ?_)
                    | (refine Tryd.stepStorePc (z := zP 0) (z' := (.slice none 0 0, setP g)) (.tmp 2) (.tmp 83) n rfl rfl rfl rfl HA0.out rfl ?_
                       intro W3 p3 z3 k3))
                  simp only [Exit.jump]
                  refine bodyPost_ret (Tryd.resultPc rfl rfl p3) rfl ⟨(.slice none 0 0, setP g), ai, ai, rfl, HR2.out.kp k3 (by omega), by omega, HK2.out.trans_new k3 (fun b hb => .inr (by have := HN.out; omega)), SlA.nil _ _, ?_⟩
                  rw [HRE.out]
                  exact rfl
                | true =>
                  by_cases hd93 : d = 93
                  · have bd : (d == 93) = true := by simpa using hd93
                    rw [bd] at d93
                    have hpass : isG c = true ∧ (c = 45 → false = false → (if true = true then some d else none) = some 93) := ⟨hg, fun _ _ => by rw [hd93]; rfl⟩
                    clear b93 b45 h45 h93 bd hd93
                    have HIS := Lib.hid (gis_c c true hg)
                    have HPP := Lib.hid hpass
                    clear hg hpass
                    go_wp2_with fail
                    refine (HIS.out _).mono ?_
                    rintro e w1 ⟨rfl, rfl⟩
                    go_wp2_with fail
                    go_meet
                    exact ⟨rfl, rfl, HPP.out⟩

                  · have bd : (d == 93) = false := by simpa using hd93
                    rw [bd] at d93
                    have HRE := Lib.hid (show R = .error ai by rw [← HVV.out, if_neg (fun h => h93 h.1), if_pos (.inr ⟨h45, rfl, by simpa using hd93⟩)])
                    clear b93 b45 h45 h93 bd hd93
                    have HIS := Lib.hid (gis_c c true hg)
                    have c1 := HR0.out.c1
                    clear hg
                    go_wp2_with fail
                    refine (HIS.out _).mono ?_
                    rintro e w1 ⟨rfl, rfl⟩
                    go_wp2_with fail
                    refine (fail_any rb s ai ai _ HR0.out).mono ?_
                    rintro e w2 ⟨rfl, hr2, hk2⟩
                    have HR2 := Lib.hid hr2
                    have HK2 := Lib.hid (HK0.out.trans hk2)
                    have HA0 := Lib.hid (HQ0.out.kp hk2 (Ne.symm hne.1))
                    have HA1 := Lib.hid (HQ1.out.kp hk2 (Ne.symm hne.2.1))
                    clear hr2 hk2
                    go_wp2_with (first
                      | (refine Tryd.stepLoadPc (z := (.slice none 0 0, setP g)) (.tmp 3) (n + 1) rfl rfl rfl HA1.out ?_)
                      | (refine Tryd.stepStorePc (z := zP 0) (z' := (.slice none 0 0, setP g)) (.tmp 2) (.tmp 83) n rfl rfl rfl rfl HA0.out rfl ?_
                         intro W3 p3 z3 k3))
                    simp only [Exit.jump]
                    refine bodyPost_ret (Tryd.resultPc rfl rfl p3) rfl ⟨(.slice none 0 0, setP g), ai, ai, rfl, HR2.out.kp k3 (by omega), by omega, HK2.out.trans_new k3 (fun b hb => .inr (by have := HN.out; omega)), SlA.nil _ _, ?_⟩
                    rw [HRE.out]
                    exact rfl
            · have b45 : (c == 45) = false := by simpa using h45
              rw [b45] at e45
              have hpass : isG c = true ∧ (c = 45 → fst = false → (if mo = true then some d else none) = some 93) := ⟨hg, fun h => absurd h h45⟩
              clear b93 b45 h45 h93
              have HIS := Lib.hid (gis_c c true hg)
              have HPP := Lib.hid hpass
              clear hg hpass
              go_wp2_with fail
              refine (HIS.out _).mono ?_
              rintro e w1 ⟨rfl, rfl⟩
              go_wp2_with fail
              go_meet
              exact ⟨rfl, rfl, HPP.out⟩

          · have hg : isG c = false := by simpa using hg
            have HRE := Lib.hid (show R = .error ai by rw [← HVV.out, if_neg (fun h => h93 h.1), if_pos (.inl hg)])
            clear b93 h93
            have HIS := Lib.hid (gis_c c false hg)
            have c1 := HR0.out.c1
            clear hg
            go_wp2_with fail
            refine (HIS.out _).mono ?_
            rintro e w1 ⟨rfl, rfl⟩
            go_wp2_with fail
            refine (fail_any rb s ai ai _ HR0.out).mono ?_
            rintro e w2 ⟨rfl, hr2, hk2⟩
            have HR2 := Lib.hid hr2
            have HK2 := Lib.hid (HK0.out.trans hk2)
            have HA0 := Lib.hid (HQ0.out.kp hk2 (Ne.symm hne.1))
            have HA1 := Lib.hid (HQ1.out.kp hk2 (Ne.symm hne.2.1))
            clear hr2 hk2
            go_wp2_with (first
              | (refine Tryd.stepLoadPc (z := (.slice none 0 0, setP g)) (.tmp 3) (n + 1) rfl rfl rfl HA1.out ?_)
              | (refine Tryd.stepStorePc (z := zP 0) (z' := (.slice none 0 0, setP g)) (.tmp 2) (.tmp 83) n rfl rfl rfl rfl HA0.out rfl ?_
                 intro W3 p3 z3 k3))
            simp only [Exit.jump]
            refine bodyPost_ret (Tryd.resultPc rfl rfl p3) rfl ⟨(.slice none 0 0, setP g), ai, ai, rfl, HR2.out.kp k3 (by omega), by omega, HK2.out.trans_new k3 (fun b hb => .inr (by have := HN.out; omega)), SlA.nil _ _, ?_⟩
            rw [HRE.out]
            exact rfl
      case rest =>
        obtain ⟨rfl, rfl, hgc, hps⟩ := hcut
        have HGC := Lib.hid hgc
        have HPS := Lib.hid hps
        have HV2 := Lib.hid (show (if (if mo = true then some d else none) = some 45 then (match s.data.toList[ai + 2]? with
          | none => Except.error s.data.toList.length
          | some p => if p = 93 then clG s.data.toList f (ai + 1) false (rangeS g c c) else if isG p = false ∨ p < c then Except.error (ai + 2) else clG s.data.toList f (ai + 3) false (rangeS g c p))
          else clG s.data.toList f (ai + 1) false (rangeS g c c)) = R by
          have hq := HVV.out
          rw [if_neg (show ¬ (c = 93 ∧ fst = false) from fun h => by rw [h.1] at hgc; revert hgc; decide), if_neg (show ¬ (isG c = false ∨ c = 45 ∧ fst = false ∧ (if mo = true then some d else none) ≠ some 93) from fun h => by
            rcases h with h | ⟨h1, h2, h3⟩
            · rw [hgc] at h; cases h
            · exact h3 (hps h1 h2))] at hq
          rw [← hq]
          by_cases h45 : (if mo = true then some d else none) = some 45
          · rw [if_pos h45, if_pos h45]
            cases s.data.toList[ai + 2]? with
            | none => rfl
            | some p =>
              simp only
              by_cases h1 : p = 93
              · rw [if_pos h1, if_pos h1]; rfl
              · rw [if_neg h1, if_neg h1]
                by_cases h2 : isG p = false ∨ p < c
                · rw [if_pos h2, if_pos h2]
                · rw [if_neg h2, if_neg h2]; rfl
          · rw [if_neg h45, if_neg h45]; rfl)
        have HC93 := Lib.hid (show c ≠ 93 from fun h => by rw [h] at hgc; revert hgc; decide)
        clear hgc hps HVV
        have c1 := HR0.out.c1
        have f1 := HR0.out.fz 1
        go_upto_region 18 with fail
        have HR2 := Lib.hid (HR0.out.put1 (ai + 1))
        have HK2 := Lib.hid (HK0.out.setCell (p := ⟨rb, 1, none⟩) (.inl rfl) (.int .i64 ((ai : Int) + 1)))
        have HB0 := Lib.hid (HQ0.out.kp ((Kp.refl (· = rb) wc).setCell (p := ⟨rb, 1, none⟩) (.inl rfl) (.int .i64 ((ai : Int) + 1))) (Ne.symm hne.1))
        have HB1 := Lib.hid (HQ1.out.kp ((Kp.refl (· = rb) wc).setCell (p := ⟨rb, 1, none⟩) (.inl rfl) (.int .i64 ((ai : Int) + 1))) (Ne.symm hne.2.1))
        have HZ2 := Lib.hid (show n + 2 ≤ (wc.setCell ⟨rb, 1, none⟩ (.int .i64 ((ai : Int) + 1))).heap.size by simpa using HZ0.out)
        obtain ⟨W2, hW2⟩ : ∃ W2, W2 = wc.setCell ⟨rb, 1, none⟩ (.int .i64 ((ai : Int) + 1)) := ⟨_, rfl⟩
        have HR2 := Lib.hid (show RB W2 rb s (ai + 1) (-1) by rw [hW2]; exact HR2.out)
        rw [← hW2] at HK2 HB0 HB1 HZ2 ⊢
        clear hW2 c1 f1
        go_cut [96] (fun s96 wx => s96 = .bool (mo && (d == 45)) ∧ wx = W2)
        case first =>
          cases mo with
          | false =>
            go_wp2_with fail
            go_meet
            exact ⟨rfl, rfl⟩
          | true =>
            obtain ⟨b, hb⟩ : ∃ b, b = (d == 45) := ⟨_, rfl⟩
            rw [← hb] at d45
            have HBB := Lib.hid hb
            clear hb
            cases b
            all_goals
              go_wp2_with fail
              go_meet
              exact ⟨by rw [Bool.true_and, ← HBB.out], rfl⟩
        case rest =>
          obtain ⟨rfl, hwc⟩ := hcut
          have hwc := hwc.symm
          subst hwc
          go_upto_if 96 with fail
          go_cut [9, 10, 11] (fun s9 s10 s11 wx => ∃ (hi : UInt8) (a2 : Nat), s9 = .int .u8 hi.toNat ∧ c ≤ hi ∧ RB wx rb s a2 (-1) ∧ a2 ≤ s.size ∧ ai < a2 ∧ Kp (· = rb) w wx ∧ PcB wx n (zP 0) ∧ PcB wx (n + 1) (.slice none 0 0, setP g) ∧ n + 2 ≤ wx.heap.size ∧ clG s.data.toList f a2 false (rangeS g c hi) = R)
          case first =>
            by_cases hm : mo = true ∧ d = 45
            · obtain ⟨rfl, rfl⟩ := hm
              have hv3 := HV2.out
              rw [if_pos (show (if true = true then some (45 : UInt8) else none) = some 45 from rfl)] at hv3
              have HV3 := Lib.hid hv3
              clear hv3
              by_cases h2 : ai + 2 < s.size
              · obtain ⟨p, hp⟩ : ∃ p, p = bAt s (ai + 2) := ⟨_, rfl⟩
                have hg2 := bAt_some h2
                rw [← hp] at hg2
                have hv4 := HV3.out
                rw [hg2] at hv4
                simp only at hv4
                have HBY := Lib.hid (byte1_some rb s (ai + 1) _ HR2.out hs h2)
                rw [show ai + 1 + 1 = ai + 2 from rfl, ← hp] at HBY
                have HV4 := Lib.hid hv4
                have HG2 := Lib.hid hg2
                clear hp hg2 hv4
                have p93 : ((p.toNat : Int) != 93) = !(p == 93) := gu8_ne p 93 (by decide)
                by_cases hp93 : p = 93
                · have b : (p == 93) = true := by simpa using hp93
                  rw [b] at p93
                  have HV5 := Lib.hid (show clG s.data.toList f (ai + 1) false (rangeS g c c) = R by rw [← HV4.out, if_pos hp93])
                  clear b hp93
                  go_wp2_with fail
                  refine HBY.out.mono ?_
                  rintro e w2 ⟨rfl, m4, rfl⟩
                  go_wp2_with fail
                  go_meet
                  exact ⟨c, ai + 1, rfl, UInt8.le_refl c, HR2.out.drewN m4, by omega, by omega, HK2.out.drewN m4, HB0.out, HB1.out, HZ2.out, HV5.out⟩
                · have b : (p == 93) = false := by simpa using hp93
                  rw [b] at p93
                  by_cases hgp : isG p = true
                  · have HIS := Lib.hid (gis_c p true hgp)
                    by_cases hpc : p < c
                    · have HRE := Lib.hid (show R = .error (ai + 2) by rw [← HV4.out, if_neg hp93, if_pos (.inr hpc)])
                      have hltp : decide ((p.toNat : Int) < (c.toNat : Int)) = true := by rw [decide_eq_true_iff]; have := UInt8.lt_iff_toNat_lt.1 hpc; omega
                      have hltn : decide (p.toNat < c.toNat) = true := by rw [decide_eq_true_iff]; exact UInt8.lt_iff_toNat_lt.1 hpc
                      clear b hp93 hgp hpc
                      go_wp2_with fail
                      refine HBY.out.mono ?_
                      rintro e w2 ⟨rfl, m4, rfl⟩
                      go_wp2_with fail
                      refine (HIS.out _).mono ?_
                      rintro e w2 ⟨rfl, rfl⟩
                      have HR2 := Lib.hid (HR2.out.drewN m4)
                      have HK2 := Lib.hid (HK2.out.drewN m4)
                      have HB0 := Lib.hid (show PcB (W2.drewN m4) n (zP 0) from HB0.out)
                      have HB1 := Lib.hid (show PcB (W2.drewN m4) (n + 1) (.slice none 0 0, setP g) from HB1.out)
                      have c1 := HR2.out.c1
                      go_wp2_with fail
                      refine (fail_any rb s (ai + 1) (ai + 2) _ HR2.out).mono ?_
                      rintro e w2 ⟨rfl, hr3, hk3⟩
                      have HR3 := Lib.hid hr3
                      have HK3 := Lib.hid (HK2.out.trans hk3)
                      have HA0 := Lib.hid (HB0.out.kp hk3 (Ne.symm hne.1))
                      have HA1 := Lib.hid (HB1.out.kp hk3 (Ne.symm hne.2.1))
                      clear hr3 hk3
                      go_wp2_with (first
                        | (refine Tryd.stepLoadPc (z := (.slice none 0 0, setP g)) (.tmp 3) (n + 1) rfl rfl rfl HA1.out ?_)
                        | (refine Tryd.stepStorePc (z := zP 0) (z' := (.slice none 0 0, setP g)) (.tmp 2) (.tmp 133) n rfl rfl rfl rfl HA0.out rfl ?_
                           intro W3 p3 z3 k3))
                      simp only [Exit.jump]
                      refine bodyPost_ret (Tryd.resultPc rfl rfl p3) rfl ⟨(.slice none 0 0, setP g), ai + 1, ((ai + 2 : Nat) : Int), rfl, HR3.out.kp k3 (by omega), by omega, HK3.out.trans_new k3 (fun b hb => .inr (by have := HN.out; omega)), SlA.nil _ _, ?_⟩
                      rw [HRE.out]
                      exact rfl
                    · have HV5 := Lib.hid (show clG s.data.toList f (ai + 3) false (rangeS g c p) = R by
                        rw [← HV4.out, if_neg hp93, if_neg (fun h => by
                          rcases h with h | h
                          · rw [hgp] at h; cases h
                          · exact hpc h)])
                      have hpc2 : c ≤ p := UInt8.not_lt.1 hpc
                      have hltp : decide ((p.toNat : Int) < (c.toNat : Int)) = false := by rw [decide_eq_false_iff_not]; have := UInt8.le_iff_toNat_le.1 hpc2; omega
                      have hltn : decide (p.toNat < c.toNat) = false := by rw [decide_eq_false_iff_not]; have := UInt8.le_iff_toNat_le.1 hpc2; omega
                      have HPC := Lib.hid hpc2
                      clear b hp93 hgp hpc hpc2
                      go_wp2_with fail
                      refine HBY.out.mono ?_
                      rintro e w2 ⟨rfl, m4, rfl⟩
                      go_wp2_with fail
                      refine (HIS.out _).mono ?_
                      rintro e w2 ⟨rfl, rfl⟩
                      have HR2 := Lib.hid (HR2.out.drewN m4)
                      have c1 := HR2.out.c1
                      have f1 := HR2.out.fz 1
                      go_wp2_with fail
                      go_meet
                      refine ⟨p, ai + 3, rfl, HPC.out, HR2.out.put1 (ai + 3), by omega, by omega, (HK2.out.drewN m4).setCell (.inl rfl) _, HB0.out.kp (((Kp.refl (· = rb) W2).drewN m4).setCell (p := ⟨rb, 1, none⟩) (.inl rfl) _) (Ne.symm hne.1), HB1.out.kp (((Kp.refl (· = rb) W2).drewN m4).setCell (p := ⟨rb, 1, none⟩) (.inl rfl) _) (Ne.symm hne.2.1), ?_, HV5.out⟩
                      show n + 2 ≤ ((W2.drewN m4).setCell _ _).heap.size
                      simpa using HZ2.out
                  · have hgp : isG p = false := by simpa using hgp
                    have HIS := Lib.hid (gis_c p false hgp)
                    have HRE := Lib.hid (show R = .error (ai + 2) by rw [← HV4.out, if_neg hp93, if_pos (.inl hgp)])
                    clear b hp93 hgp
                    go_wp2_with fail
                    refine HBY.out.mono ?_
                    rintro e w2 ⟨rfl, m4, rfl⟩
                    go_wp2_with fail
                    refine (HIS.out _).mono ?_
                    rintro e w2 ⟨rfl, rfl⟩
                    have HR2 := Lib.hid (HR2.out.drewN m4)
                    have HK2 := Lib.hid (HK2.out.drewN m4)
                    have HB0 := Lib.hid (show PcB (W2.drewN m4) n (zP 0) from HB0.out)
                    have HB1 := Lib.hid (show PcB (W2.drewN m4) (n + 1) (.slice none 0 0, setP g) from HB1.out)
                    have c1 := HR2.out.c1
                    go_wp2_with fail
                    refine (fail_any rb s (ai + 1) (ai + 2) _ HR2.out).mono ?_
                    rintro e w2 ⟨rfl, hr3, hk3⟩
                    have HR3 := Lib.hid hr3
                    have HK3 := Lib.hid (HK2.out.trans hk3)
                    have HA0 := Lib.hid (HB0.out.kp hk3 (Ne.symm hne.1))
                    have HA1 := Lib.hid (HB1.out.kp hk3 (Ne.symm hne.2.1))
                    clear hr3 hk3
                    go_wp2_with (first
                      | (refine Tryd.stepLoadPc (z := (.slice none 0 0, setP g)) (.tmp 3) (n + 1) rfl rfl rfl HA1.out ?_)
                      | (refine Tryd.stepStorePc (z := zP 0) (z' := (.slice none 0 0, setP g)) (.tmp 2) (.tmp 133) n rfl rfl rfl rfl HA0.out rfl ?_
                         intro W3 p3 z3 k3))
                    simp only [Exit.jump]
                    refine bodyPost_ret (Tryd.resultPc rfl rfl p3) rfl ⟨(.slice none 0 0, setP g), ai + 1, ((ai + 2 : Nat) : Int), rfl, HR3.out.kp k3 (by omega), by omega, HK3.out.trans_new k3 (fun b hb => .inr (by have := HN.out; omega)), SlA.nil _ _, ?_⟩
                    rw [HRE.out]
                    exact rfl
              · have hg2 := bAt_none (s := s) (i := ai + 2) (by omega)
                have hv4 := HV3.out
                rw [hg2] at hv4
                have HRE := Lib.hid (show R = .error s.size from hv4.symm)
                have HBY := Lib.hid (byte1_none rb s (ai + 1) _ HR2.out hs (by omega) (by omega))
                clear hg2 hv4
                go_wp2_with fail
                refine HBY.out.mono ?_
                rintro e w2 ⟨rfl, m4, rfl⟩
                have HR2 := Lib.hid (HR2.out.drewN m4)
                have HK2 := Lib.hid (HK2.out.drewN m4)
                have HB0 := Lib.hid (show PcB (W2.drewN m4) n (zP 0) from HB0.out)
                have HB1 := Lib.hid (show PcB (W2.drewN m4) (n + 1) (.slice none 0 0, setP g) from HB1.out)
                have c0 := HR2.out.c0
                go_wp2_with fail
                refine (fail_any rb s (ai + 1) s.size _ HR2.out).mono ?_
                rintro e w2 ⟨rfl, hr3, hk3⟩
                have HR3 := Lib.hid hr3
                have HK3 := Lib.hid (HK2.out.trans hk3)
                have HA0 := Lib.hid (HB0.out.kp hk3 (Ne.symm hne.1))
                have HA1 := Lib.hid (HB1.out.kp hk3 (Ne.symm hne.2.1))
                clear hr3 hk3
                go_wp2_with (first
                  | (refine Tryd.stepLoadPc (z := (.slice none 0 0, setP g)) (.tmp 3) (n + 1) rfl rfl rfl HA1.out ?_)
                  | (refine Tryd.stepStorePc (z := zP 0) (z' := (.slice none 0 0, setP g)) (.tmp 2) (.tmp 112) n rfl rfl rfl rfl HA0.out rfl ?_
                     intro W3 p3 z3 k3))
                simp only [Exit.jump]
                refine bodyPost_ret (Tryd.resultPc rfl rfl p3) rfl ⟨(.slice none 0 0, setP g), ai + 1, s.size, rfl, HR3.out.kp k3 (by omega), by omega, HK3.out.trans_new k3 (fun b hb => .inr (by have := HN.out; omega)), SlA.nil _ _, ?_⟩
                rw [HRE.out]
                exact rfl
            · have hmb : (mo && (d == 45)) = false := by
                cases mo
                · rfl
                · simp at hm ⊢; exact hm
              have HV5 := Lib.hid (show clG s.data.toList f (ai + 1) false (rangeS g c c) = R by
                rw [← HV2.out, if_neg]
                intro h
                cases mo
                · cases h
                · exact hm ⟨rfl, by simpa using h⟩)
              rw [hmb]
              clear hm hmb
              go_wp2_with fail
              go_meet
              exact ⟨c, ai + 1, rfl, UInt8.le_refl c, HR2.out, by omega, by omega, HK2.out, HB0.out, HB1.out, HZ2.out, HV5.out⟩
          case rest =>
            obtain ⟨hi, a2, rfl, hch, hr3, ha3, hlt3, hk3, hb0, hb1, hz3, hv3⟩ := hcut
            have HCH := Lib.hid hch
            have HR3 := Lib.hid hr3
            have HK3 := Lib.hid hk3
            have HB3 := Lib.hid hb0
            have HP3 := Lib.hid hb1
            have HZ3 := Lib.hid hz3
            have HV3 := Lib.hid hv3
            have h1 : c.toNat ≤ hi.toNat := UInt8.le_iff_toNat_le.1 hch
            have h2 : hi.toNat < 256 := hi.toNat_lt
            clear hch hr3 hk3 hb0 hb1 hz3 hv3 e93 e45 d93 d45
            go_wp2_with fail
            go_loopw [12] (fun x wr => ∃ k : Nat, x = .int .i64 k ∧ c.toNat ≤ k ∧ k ≤ hi.toNat + 1 ∧ RB wr rb s a2 (-1) ∧ Kp (· = rb) w wr ∧ PcB wr n (zP 0) ∧ PcB wr (n + 1) (.slice none 0 0, setP (rngTo g c k)) ∧ n + 2 ≤ wr.heap.size) (fun x _ => 300 - (intOf x).toNat)
            case atStart => exact ⟨c.toNat, rfl, Nat.le_refl _, by omega, HR3.out, HK3.out, HB3.out, by rw [rngTo_start]; exact HP3.out, HZ3.out⟩
            case round =>
              obtain ⟨k, rfl, hk1, hk2, hr4, hk4, hb4, hp4, hz4⟩ := hrel
              have HR4 := Lib.hid hr4
              have HK4 := Lib.hid hk4
              have HB4 := Lib.hid hb4
              have HP4 := Lib.hid hp4
              have HZ4 := Lib.hid hz4
              clear hr4 hk4 hb4 hp4 hz4
              by_cases hlt : k < hi.toNat + 1
              · have g1 : decide ((k : Int) ≤ (hi.toNat : Int)) = true := by rw [decide_eq_true_iff]; omega
                have g2 : decide (k ≤ hi.toNat) = true := by rw [decide_eq_true_iff]; omega
                have w8 : IntKind.u8.wrap (k : Int) = (k : Int) := IntWalk.u8_in _ (by omega)
                have hk256 : k < 256 := by omega
                have HGB := Lib.hid (show ∀ w, Calls Tryd.prog 51 #[.int .u8 (k : Int)] w fun e w' => e = .returned (.bool (isG (UInt8.ofNat k))) ∧ w' = w by
                  have := gis_c (UInt8.ofNat k) _ rfl
                  rw [UInt8.toNat_ofNat', Nat.mod_eq_of_lt hk256] at this
                  exact this)
                have cc := HP4.out.cs k hk256
                have cf := HP4.out.fz (2 + k)
                go_wp2_with fail
                refine (HGB.out _).mono ?_
                rintro e w5 ⟨rfl, rfl⟩
                go_wp2_with fail
                go_roundw
                case rel =>
                  refine ⟨k + 1, by go_num, by omega, by omega, HR4.out.kp ((Kp.refl (· = n + 1) _).setCell (p := ⟨n + 1, 2 + k, none⟩) (.inl rfl) _) (by omega), HK4.out.setCell (p := ⟨n + 1, 2 + k, none⟩) (.inr (by show _ ≤ n + 1; have := HN.out; omega)) _, HB4.out.kp ((Kp.refl (· = n + 1) _).setCell (p := ⟨n + 1, 2 + k, none⟩) (.inl rfl) _) (by omega), ?_, ?_⟩
                  · have := HP4.out.putSet (UInt8.ofNat k) (isG (UInt8.ofNat k))
                    rw [UInt8.toNat_ofNat', Nat.mod_eq_of_lt hk256] at this
                    rw [rngTo_step g c k hk1 hk256]
                    exact this
                  · simpa using HZ4.out
                case measure => simp [intOf]; omega
              · have g1 : decide ((k : Int) ≤ (hi.toNat : Int)) = false := by rw [decide_eq_false_iff_not]; omega
                have g2 : decide (k ≤ hi.toNat) = false := by rw [decide_eq_false_iff_not]; omega
                go_wp2_with fail
                go_step3
                refine ⟨rfl, ClJ.mk a2 f false (rangeS g c hi) ?_ ⟨HR4.out, by omega, by omega, HZ4.out, HK4.out, HB4.out, ?_, HV3.out⟩, ?_⟩
                · rfl
                · rw [show rangeS g c hi = rngTo g c k by rw [show k = hi.toNat + 1 by omega]; exact rngTo_end g c hi]
                  exact HP4.out
                · rw [HR4.out.atOf, HRW.out.atOf]
                  omega
    · have HRE := Lib.hid (show R = .error s.size by
        rw [← HV.out]; unfold clG classG; rw [bAt_none (by omega)]; rfl)
      go_wp2_with fail
      refine (byte0_none rb s ai W HRW.out hs (by omega) (by omega)).mono ?_
      rintro e w1 ⟨rfl, m, rfl⟩
      go_wp2_with fail
      refine (byte1_none rb s ai _ (HRW.out.drewN m) hs (by omega) (by omega)).mono ?_
      rintro e w1 ⟨rfl, m2, rfl⟩
      have HR0 := Lib.hid (show RB ((W.drewN m).drewN m2) rb s ai (-1) from HRW.out)
      have HK0 := Lib.hid (show Kp (· = rb) w ((W.drewN m).drewN m2) from (HKW.out.drewN m).drewN m2)
      have HB0 := Lib.hid (show PcB ((W.drewN m).drewN m2) n (zP 0) from HP0.out)
      have HB1 := Lib.hid (show PcB ((W.drewN m).drewN m2) (n + 1) (.slice none 0 0, setP g) from HP1.out)
      obtain ⟨W0, hW0⟩ : ∃ W0, W0 = (W.drewN m).drewN m2 := ⟨_, rfl⟩
      rw [← hW0] at HR0 HK0 HB0 HB1 ⊢
      clear hW0
      have c0 := HR0.out.c0
      go_wp2_with fail
      refine (fail_any rb s ai s.size _ HR0.out).mono ?_
      rintro e w2 ⟨rfl, hr2, hk2⟩
      have HR2 := Lib.hid hr2
      have HK2 := Lib.hid (HK0.out.trans hk2)
      have HQ0 := Lib.hid (HB0.out.kp hk2 (Ne.symm hne.1))
      have HQ1 := Lib.hid (HB1.out.kp hk2 (Ne.symm hne.2.1))
      clear hr2 hk2
      go_wp2_with (first
        | (refine Tryd.stepLoadPc (.tmp 3) (n + 1) rfl rfl rfl HQ1.out ?_)
        | (refine Tryd.stepStorePc (z' := (.slice none 0 0, setP g)) (.tmp 2) (.tmp 41) n rfl rfl rfl rfl HQ0.out rfl ?_
           intro W3 p3 z3 k3))
      simp only [Exit.jump]
      refine bodyPost_ret (Tryd.resultPc rfl rfl p3) rfl ⟨(.slice none 0 0, setP g), ai, s.size, rfl, HR2.out.kp k3 (by omega), by omega, HK2.out.trans_new k3 (fun b hb => .inr (by have := HN.out; omega)), SlA.nil _ _, ?_⟩
      rw [HRE.out]
      rfl
end Go.Proofs.YtnnfhcbopchodaaDoor
namespace Go.Proofs.YtnnfhcbopchodaaDoor
open Go Go.RowKit
set_option linter.unusedVariables false
set_option linter.unusedSimpArgs false
set_option maxRecDepth 100000
theorem sla_one {B : Nat → Prop} {w : World} {v : Value} {ws : List (List UInt8)} (h : SlA wenc B w v ws) : v.oneCell' = true := by
  obtain ⟨⟨a, cap, rfl, -⟩, -⟩ := h; rfl
set_option maxHeartbeats 4000000 in
theorem piece_any (rb : Nat) (s : ByteArray) (ai : Nat) (w : World) (h : RB w rb s ai (-1)) (hat : ai < s.size) (hs : s.size ≤ 4096) :
    Calls Tryd.prog 45 #[.pointer (some ⟨rb, 0, none⟩), .int .u8 (bAt s ai).toNat] w fun e w' => PcPost s rb w (pieceG s.data.toList ai (bAt s ai)) e w' := by
  have HR := Lib.hid h
  have HL := Lib.hid (heap_lt h)
  obtain ⟨n, hn⟩ : ∃ n, w.heap.size = n := ⟨_, rfl⟩
  have hne : rb ≠ n ∧ rb ≠ n + 1 ∧ rb < n := by have := HL.out; omega
  have HN := Lib.hid hn
  obtain ⟨c, hc⟩ : ∃ c, bAt s ai = c := ⟨_, rfl⟩
  rw [hc]
  obtain ⟨R, hR⟩ : ∃ R, pieceG s.data.toList ai c = R := ⟨_, rfl⟩
  rw [hR]
  have e91 : ((c.toNat : Int) == 91) = (c == 91) := gu8_eq c 91 (by decide)
  have e123 : ((c.toNat : Int) == 123) = (c == 123) := gu8_eq c 123 (by decide)
  have e42 : ((c.toNat : Int) == 42) = (c == 42) := gu8_eq c 42 (by decide)
  have e63 : ((c.toNat : Int) == 63) = (c == 63) := gu8_eq c 63 (by decide)
  unfold pieceG at hR
  clear h hn hc
  by_cases h91 : c = 91
  · have b : (c == 91) = true := by simpa using h91
    have HRR := Lib.hid (show clG s.data.toList (s.size + 1) (ai + 1) true (fun _ => false) = R by rw [← hR, h91]; rfl)
    rw [b] at e91
    clear b h91 hR e42 e63 e123
    go_enter Tryd.func45, Tryd.ntmps45
    go_wp2_with (refine Tryd.stepAllocPc (n := n) rfl rfl HN.out ?_; intro W1 p1 z1 k1)
    have HR1 := Lib.hid (HR.out.kp k1 (fun h => h))
    refine (class_any rb s ai W1 HR1.out hat hs).mono ?_
    rintro e w2 ⟨z, a2, bad, rfl, hr2, ha2, hk2, hsl, hres⟩
    rw [HRR.out] at hres
    have HP := Lib.hid (p1.kp hk2 (Ne.symm hne.1))
    have HR2 := Lib.hid hr2
    have HK2 := Lib.hid ((k1.mono (C := (· = rb)) (fun _ _ h => h.elim)).trans hk2)
    have HSL := Lib.hid hsl
    have HRES := Lib.hid hres
    have HZ1 := Lib.hid z1
    have HW2 := Lib.hid hk2.size
    clear p1 k1 z1 hr2 hk2 hsl hres
    go_wp2_with (refine Tryd.stepStorePc (z := zP 0) (z' := z) (.tmp 4) (.tmp 10) n rfl rfl rfl rfl HP.out (sla_one HSL.out) ?_; intro W3 p3 z3 k3)
    refine bodyPost_ret (Tryd.resultPc rfl rfl p3) rfl ⟨z, a2, bad, rfl, HR2.out.kp k3 (by omega), ha2, HK2.out.trans_new k3 (fun b hb => .inr (by have := HN.out; omega)), ⟨Sl.kp (HSL.out.mono (C := (· = n)) (fun b hb => by have := HZ1.out; omega)) k3, fun hx b hb hlt => HSL.out.2 hx b hb (by have := HN.out; have := HZ1.out; omega)⟩, HRES.out⟩
  · have b : (c == 91) = false := by simpa using h91
    rw [b] at e91
    by_cases h123 : c = 123
    · have b : (c == 123) = true := by simpa using h123
      have HRR := Lib.hid (show brG s.data.toList (s.size + 1) (ai + 1) (ai + 1) [] = R by rw [← hR, h123]; rfl)
      rw [b] at e123
      clear b h91 hR e42 e63 h123
      go_enter Tryd.func45, Tryd.ntmps45
      go_wp2_with (refine Tryd.stepAllocPc (n := n) rfl rfl HN.out ?_; intro W1 p1 z1 k1)
      have HR1 := Lib.hid (HR.out.kp k1 (fun h => h))
      refine (braces_any rb s ai W1 HR1.out hat hs).mono ?_
      rintro e w2 ⟨z, a2, bad, rfl, hr2, ha2, hk2, hsl, hres⟩
      rw [HRR.out] at hres
      have HP := Lib.hid (p1.kp hk2 (Ne.symm hne.1))
      have HR2 := Lib.hid hr2
      have HK2 := Lib.hid ((k1.mono (C := (· = rb)) (fun _ _ h => h.elim)).trans hk2)
      have HSL := Lib.hid hsl
      have HRES := Lib.hid hres
      have HZ1 := Lib.hid z1
      have HW2 := Lib.hid hk2.size
      clear p1 k1 z1 hr2 hk2 hsl hres
      go_wp2_with (refine Tryd.stepStorePc (z := zP 0) (z' := z) (.tmp 4) (.tmp 14) n rfl rfl rfl rfl HP.out (sla_one HSL.out) ?_; intro W3 p3 z3 k3)
      refine bodyPost_ret (Tryd.resultPc rfl rfl p3) rfl ⟨z, a2, bad, rfl, HR2.out.kp k3 (by omega), ha2, HK2.out.trans_new k3 (fun b hb => .inr (by have := HN.out; omega)), ⟨Sl.kp (HSL.out.mono (C := (· = n)) (fun b hb => by have := HZ1.out; omega)) k3, fun hx b hb hlt => HSL.out.2 hx b hb (by have := HN.out; have := HZ1.out; omega)⟩, HRES.out⟩
    · have b' : (c == 123) = false := by simpa using h123
      rw [b'] at e123
      clear b b'
      by_cases h42 : c = 42
      · have b : (c == 42) = true := by simpa using h42
        have HRR := Lib.hid (show .ok (manyP, ai + 1) = R by rw [← hR, if_pos h42])
        have hcc : c = 42 := h42
        have b2 : (c == 63) = false := by rw [h42]; decide
        rw [b] at e42
        rw [b2] at e63
        have HCC := Lib.hid hcc
        clear b b2 h91 h123 hR h42 hcc
        go_enter Tryd.func45, Tryd.ntmps45
        go_wp2_with (first
          | (refine Tryd.stepAllocPc (n := n) rfl rfl HN.out ?_
             intro W1 p1 z1 k1
             have HZ1 := Lib.hid z1
             have HP1 := Lib.hid p1
             have HK1 := Lib.hid k1
             clear p1 z1 k1)
          | (refine Tryd.stepBuildKT 0 (.tmp 15) c rfl rfl rfl ?_)
          | (refine Tryd.stepAllocPc (n := n + 1) rfl rfl HZ1.out ?_; intro W2 p2 z2 k2)
          | (refine Tryd.stepStorePc (z' := (.slice none 0 0, itselfP c)) (.tmp 5) (.tmp 16) (n + 1) rfl rfl rfl rfl p2 rfl ?_
             intro W3 p3 z3 k3
             have HR3 := Lib.hid (((HR.out.kp HK1.out (fun h => h)).kp k2 (fun h => h)).kp k3 (by omega))
             have HK3 := Lib.hid (((HK1.out.mono (C := (· = rb)) (fun _ _ h => h.elim)).trans (k2.mono (C := (· = rb)) (fun _ _ h => h.elim))).trans_new k3 (fun b hb => .inr (by have := HN.out; omega)))
             have HQ3 := Lib.hid ((HP1.out.kp k2 (fun h => h)).kp k3 (by omega))
             have HP3 := Lib.hid p3
             clear p2 z2 k2 p3 z3 k3
             have c1 := HR3.out.c1
             have f1 := HR3.out.fz 1
             have q0 := HP3.out.c0
             have qf := HP3.out.fz 0
             have hn1 : n + 1 ≠ rb := by omega)
          | (refine Tryd.stepLoadPc (z := (.slice none 0 0, ⟨3, c, fun _ => false, []⟩)) (.tmp 5) (n + 1) rfl rfl rfl ((HP3.out.putKind 3).kp ((Kp.refl (· = rb) _).setCell (p := ⟨rb, 1, none⟩) (.inl rfl) _) (Ne.symm hne.2.1)) ?_)
          | (refine Tryd.stepStorePc (z := zP 0) (z' := (.slice none 0 0, ⟨3, c, fun _ => false, []⟩)) (.tmp 4) (.tmp 42) n rfl rfl rfl rfl ((HQ3.out.kp ((Kp.refl (· = n + 1) _).setCell (p := ⟨n + 1, 0, none⟩) (.inl rfl) _) (by omega)).kp ((Kp.refl (· = rb) _).setCell (p := ⟨rb, 1, none⟩) (.inl rfl) _) (Ne.symm hne.1)) rfl ?_
             intro W5 p5 z5 k5))
        refine bodyPost_ret (Tryd.resultPc rfl rfl p5) rfl ⟨(.slice none 0 0, ⟨3, c, fun _ => false, []⟩), ai + 1, -1, rfl, ((HR3.out.kp ((Kp.refl (· = n + 1) _).setCell (p := ⟨n + 1, 0, none⟩) (.inl rfl) _) (by omega)).put1 (ai + 1)).kp k5 (by omega), by omega, (((HK3.out.setCell (p := ⟨n + 1, 0, none⟩) (.inr (by show _ ≤ n + 1; have := HN.out; omega)) _).setCell (p := ⟨rb, 1, none⟩) (.inl rfl) _)).trans_new k5 (fun b hb => .inr (by have := HN.out; omega)), SlA.nil _ _, ?_⟩
        rw [← HRR.out]
        exact ⟨by rw [HCC.out]; rfl, rfl, rfl⟩
      · have b : (c == 42) = false := by simpa using h42
        rw [b] at e42
        rw [if_neg h42] at hR
        clear b h42
        by_cases h63 : c = 63
        · have b : (c == 63) = true := by simpa using h63
          have HRR := Lib.hid (show .ok (everyP, ai + 1) = R by rw [← hR, if_pos h63])
          have HCC := Lib.hid h63
          rw [b] at e63
          clear b h91 h123 hR h63
          go_enter Tryd.func45, Tryd.ntmps45
          go_wp2_with (first
            | (refine Tryd.stepAllocPc (n := n) rfl rfl HN.out ?_
               intro W1 p1 z1 k1
               have HZ1 := Lib.hid z1
               have HP1 := Lib.hid p1
               have HK1 := Lib.hid k1
               clear p1 z1 k1)
            | (refine Tryd.stepBuildKT 0 (.tmp 15) c rfl rfl rfl ?_)
            | (refine Tryd.stepAllocPc (n := n + 1) rfl rfl HZ1.out ?_; intro W2 p2 z2 k2)
            | (refine Tryd.stepStorePc (z' := (.slice none 0 0, itselfP c)) (.tmp 5) (.tmp 16) (n + 1) rfl rfl rfl rfl p2 rfl ?_
               intro W3 p3 z3 k3
               have HR3 := Lib.hid (((HR.out.kp HK1.out (fun h => h)).kp k2 (fun h => h)).kp k3 (by omega))
               have HK3 := Lib.hid (((HK1.out.mono (C := (· = rb)) (fun _ _ h => h.elim)).trans (k2.mono (C := (· = rb)) (fun _ _ h => h.elim))).trans_new k3 (fun b hb => .inr (by have := HN.out; omega)))
               have HQ3 := Lib.hid ((HP1.out.kp k2 (fun h => h)).kp k3 (by omega))
               have HP3 := Lib.hid p3
               clear p2 z2 k2 p3 z3 k3
               have c1 := HR3.out.c1
               have f1 := HR3.out.fz 1
               have q0 := HP3.out.c0
               have qf := HP3.out.fz 0
               have hn1 : n + 1 ≠ rb := by omega)
            | (refine Tryd.stepLoadPc (z := (.slice none 0 0, ⟨2, c, fun _ => false, []⟩)) (.tmp 5) (n + 1) rfl rfl rfl ((HP3.out.putKind 2).kp ((Kp.refl (· = rb) _).setCell (p := ⟨rb, 1, none⟩) (.inl rfl) _) (Ne.symm hne.2.1)) ?_)
            | (refine Tryd.stepStorePc (z := zP 0) (z' := (.slice none 0 0, ⟨2, c, fun _ => false, []⟩)) (.tmp 4) (.tmp 42) n rfl rfl rfl rfl ((HQ3.out.kp ((Kp.refl (· = n + 1) _).setCell (p := ⟨n + 1, 0, none⟩) (.inl rfl) _) (by omega)).kp ((Kp.refl (· = rb) _).setCell (p := ⟨rb, 1, none⟩) (.inl rfl) _) (Ne.symm hne.1)) rfl ?_
               intro W5 p5 z5 k5))
          refine bodyPost_ret (Tryd.resultPc rfl rfl p5) rfl ⟨(.slice none 0 0, ⟨2, c, fun _ => false, []⟩), ai + 1, -1, rfl, ((HR3.out.kp ((Kp.refl (· = n + 1) _).setCell (p := ⟨n + 1, 0, none⟩) (.inl rfl) _) (by omega)).put1 (ai + 1)).kp k5 (by omega), by omega, (((HK3.out.setCell (p := ⟨n + 1, 0, none⟩) (.inr (by show _ ≤ n + 1; have := HN.out; omega)) _).setCell (p := ⟨rb, 1, none⟩) (.inl rfl) _)).trans_new k5 (fun b hb => .inr (by have := HN.out; omega)), SlA.nil _ _, ?_⟩
          rw [← HRR.out]
          exact ⟨by rw [HCC.out]; rfl, rfl, rfl⟩
        · have b : (c == 63) = false := by simpa using h63
          rw [b] at e63
          rw [if_neg h63, if_neg h123, if_neg h91] at hR
          clear b h63 h91 h123
          by_cases hg : isG c = true
          · have HRR := Lib.hid (show .ok (itselfP c, ai + 1) = R by rw [← hR, if_pos hg])
            have HIS := Lib.hid (gis_c c true hg)
            clear hR hg
            go_enter Tryd.func45, Tryd.ntmps45
            go_wp2_with (first
              | (refine Tryd.stepAllocPc (n := n) rfl rfl HN.out ?_
                 intro W1 p1 z1 k1
                 have HZ1 := Lib.hid z1
                 have HP1 := Lib.hid p1
                 have HK1 := Lib.hid k1
                 clear p1 z1 k1)
              | (refine Tryd.stepBuildKT 0 (.tmp 15) c rfl rfl rfl ?_)
              | (refine Tryd.stepAllocPc (n := n + 1) rfl rfl HZ1.out ?_; intro W2 p2 z2 k2)
              | (refine Tryd.stepStorePc (z' := (.slice none 0 0, itselfP c)) (.tmp 5) (.tmp 16) (n + 1) rfl rfl rfl rfl p2 rfl ?_
                 intro W3 p3 z3 k3
                 have HR3 := Lib.hid (((HR.out.kp HK1.out (fun h => h)).kp k2 (fun h => h)).kp k3 (by omega))
                 have HK3 := Lib.hid (((HK1.out.mono (C := (· = rb)) (fun _ _ h => h.elim)).trans (k2.mono (C := (· = rb)) (fun _ _ h => h.elim))).trans_new k3 (fun b hb => .inr (by have := HN.out; omega)))
                 have HQ3 := Lib.hid ((HP1.out.kp k2 (fun h => h)).kp k3 (by omega))
                 have HP3 := Lib.hid p3
                 clear p2 z2 k2 p3 z3 k3
                 have c1 := HR3.out.c1
                 have f1 := HR3.out.fz 1
                 have q0 := HP3.out.c0
                 have qf := HP3.out.fz 0
                 have hn1 : n + 1 ≠ rb := by omega))
            refine (HIS.out _).mono ?_
            rintro e w4 ⟨rfl, rfl⟩
            go_wp2_with (first
              | (refine Tryd.stepLoadPc (z := (.slice none 0 0, itselfP c)) (.tmp 5) (n + 1) rfl rfl rfl (HP3.out.kp ((Kp.refl (· = rb) _).setCell (p := ⟨rb, 1, none⟩) (.inl rfl) _) (Ne.symm hne.2.1)) ?_)
              | (refine Tryd.stepStorePc (z := zP 0) (z' := (.slice none 0 0, itselfP c)) (.tmp 4) (.tmp 42) n rfl rfl rfl rfl (HQ3.out.kp ((Kp.refl (· = rb) _).setCell (p := ⟨rb, 1, none⟩) (.inl rfl) _) (Ne.symm hne.1)) rfl ?_
                 intro W5 p5 z5 k5))
            refine bodyPost_ret (Tryd.resultPc rfl rfl p5) rfl ⟨(.slice none 0 0, itselfP c), ai + 1, -1, rfl, (HR3.out.put1 (ai + 1)).kp k5 (by omega), by omega, (HK3.out.setCell (p := ⟨rb, 1, none⟩) (.inl rfl) _).trans_new k5 (fun b hb => .inr (by have := HN.out; omega)), SlA.nil _ _, ?_⟩
            rw [← HRR.out]
            exact ⟨rfl, rfl, rfl⟩
          · have HRR := Lib.hid (show .error ai = R by rw [← hR, if_neg hg])
            have HIS := Lib.hid (gis_c c false (by simpa using hg))
            clear hR hg
            go_enter Tryd.func45, Tryd.ntmps45
            go_wp2_with (first
              | (refine Tryd.stepAllocPc (n := n) rfl rfl HN.out ?_
                 intro W1 p1 z1 k1
                 have HZ1 := Lib.hid z1
                 have HP1 := Lib.hid p1
                 have HK1 := Lib.hid k1
                 clear p1 z1 k1)
              | (refine Tryd.stepBuildKT 0 (.tmp 15) c rfl rfl rfl ?_)
              | (refine Tryd.stepAllocPc (n := n + 1) rfl rfl HZ1.out ?_; intro W2 p2 z2 k2)
              | (refine Tryd.stepStorePc (z' := (.slice none 0 0, itselfP c)) (.tmp 5) (.tmp 16) (n + 1) rfl rfl rfl rfl p2 rfl ?_
                 intro W3 p3 z3 k3
                 have HR3 := Lib.hid (((HR.out.kp HK1.out (fun h => h)).kp k2 (fun h => h)).kp k3 (by omega))
                 have HK3 := Lib.hid (((HK1.out.mono (C := (· = rb)) (fun _ _ h => h.elim)).trans (k2.mono (C := (· = rb)) (fun _ _ h => h.elim))).trans_new k3 (fun b hb => .inr (by have := HN.out; omega)))
                 have HQ3 := Lib.hid ((HP1.out.kp k2 (fun h => h)).kp k3 (by omega))
                 have HP3 := Lib.hid p3
                 clear p2 z2 k2 p3 z3 k3
                 have c1 := HR3.out.c1
                 have f1 := HR3.out.fz 1
                 have q0 := HP3.out.c0
                 have qf := HP3.out.fz 0
                 have hn1 : n + 1 ≠ rb := by omega))
            refine (HIS.out _).mono ?_
            rintro e w4 ⟨rfl, rfl⟩
            go_wp2_with fail
            refine (fail_any rb s ai ai _ HR3.out).mono ?_
            rintro e w4 ⟨rfl, hr4, hk4⟩
            have HR4 := Lib.hid hr4
            have HK4 := Lib.hid (HK3.out.trans hk4)
            have HP4 := Lib.hid (HP3.out.kp hk4 (Ne.symm hne.2.1))
            have HQ4 := Lib.hid (HQ3.out.kp hk4 (Ne.symm hne.1))
            clear hr4 hk4 c1 f1 q0 qf
            have c1 := HR4.out.c1
            have f1 := HR4.out.fz 1
            go_wp2_with (first
              | (refine Tryd.stepLoadPc (z := (.slice none 0 0, itselfP c)) (.tmp 5) (n + 1) rfl rfl rfl (HP4.out.kp ((Kp.refl (· = rb) _).setCell (p := ⟨rb, 1, none⟩) (.inl rfl) _) (Ne.symm hne.2.1)) ?_)
              | (refine Tryd.stepStorePc (z := zP 0) (z' := (.slice none 0 0, itselfP c)) (.tmp 4) (.tmp 42) n rfl rfl rfl rfl (HQ4.out.kp ((Kp.refl (· = rb) _).setCell (p := ⟨rb, 1, none⟩) (.inl rfl) _) (Ne.symm hne.1)) rfl ?_
                 intro W5 p5 z5 k5))
            refine bodyPost_ret (Tryd.resultPc rfl rfl p5) rfl ⟨(.slice none 0 0, itselfP c), ai + 1, ai, rfl, (HR4.out.put1 (ai + 1)).kp k5 (by omega), by omega, (HK4.out.setCell (p := ⟨rb, 1, none⟩) (.inl rfl) _).trans_new k5 (fun b hb => .inr (by have := HN.out; omega)), SlA.nil _ _, ?_⟩
            rw [← HRR.out]
            exact rfl
end Go.Proofs.YtnnfhcbopchodaaDoor
