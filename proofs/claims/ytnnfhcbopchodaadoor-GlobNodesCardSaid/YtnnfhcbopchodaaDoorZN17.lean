/- Chapter 4's reader: pieces. A region that draws its order, whose loads hold till their own store comes up. (Several texts in one file, by merge.py.) -/
import Derived.Test.YtnnfhcbopchodaaDoorZN15
import Derived.OrdersHeld
import Derived.Deep.RegionHeld3
import Derived.StillTail
import Derived.Outline
namespace Go.Proofs.YtnnfhcbopchodaaDoor
open Go Go.RowKit
set_option linter.unusedVariables false
set_option linter.unusedSimpArgs false
set_option maxRecDepth 100000
/-- An atom at a fuel: the contract. -/
def AtomC (f : Nat) : Prop := ∀ (rb : Nat) (s : ByteArray) (p d : Nat) (bad : Int) (w : World), R4 w rb s p d 0 bad → s.size ≤ 4096 → p < s.size → d ≤ 40 → 3 * (s.size - p) + 2 ≤ f →
  Calls Tryd.prog 68 #[.pointer (some ⟨rb, 0, none⟩)] w fun e w' => AQ s rb d (p + 1) w (atomL f d (s.data.toList.drop p)) e w'
theorem atomC_of {f : Nat} (h : AltC f) : AtomC (f + 1) := fun rb s p d bad w h1 h2 h3 h4 h5 => r4atom_any f h rb s p d bad w h1 h2 h3 h4 (by omega)
/-- Pieces at a fuel: the contract. -/
def PieceC (f : Nat) : Prop := ∀ (rb : Nat) (s : ByteArray) (p d : Nat) (bad : Int) (w : World), R4 w rb s p d 0 bad → s.size ≤ 4096 → p ≤ s.size → d ≤ 40 → 3 * (s.size - p) + 3 ≤ f →
  Calls Tryd.prog 48 #[.pointer (some ⟨rb, 0, none⟩)] w fun e w' => AQ s rb d p w (piecesL f d [] (s.data.toList.drop p)) e w'
/-- Where pieces stand, with a block of one's own that is in use. -/
structure PS (s : ByteArray) (rb d n : Nat) (w : World) (zs : List ZNd) (v : Value) (X : Nat → Prop) (ai : Nat) (er bd : Int) (wx : World) : Prop where
  r : R4 wx rb s ai d er bd
  k : Kp (· = rb) w wx
  p : NdB wx (n + 1) (v, .node 1 (zs.map (·.2)) noS)
  q : NdB wx n (zN 0)
  z : n + 2 ≤ wx.heap.size
  o : wx.ownsRow (n + 2) NdT 258 v zs.length (zs.flatMap nenc)
  h : ∀ z ∈ zs, NdOk (fun b => b < n + 2 ∨ v.ownBlock = some b ∨ X b) wx z.1 z.2
theorem PS.step {s : ByteArray} {rb d n : Nat} {w wx wy : World} {zs : List ZNd} {v : Value} {X C : Nat → Prop} {ai a2 : Nat} {er bd er2 bd2 : Int} (hn : w.heap.size = n) (hrb : rb < n) (h : PS s rb d n w zs v X ai er bd wx) (hX : ∀ b, X b → n + 2 ≤ b ∧ v.ownBlock ≠ some b) (k : Kp C wx wy) (hc : ∀ b, C b → b = rb ∨ X b ∨ wx.heap.size ≤ b) (hr : R4 wy rb s a2 d er2 bd2) :
    PS s rb d n w zs v X a2 er2 bd2 wy := by
  have hz := h.z
  refine ⟨hr, h.k.trans_new k (fun b hb => ?_), h.p.kp k (fun hb => ?_), h.q.kp k (fun hb => ?_), Nat.le_trans hz k.size, own_kp h.o k (fun b hb hl hC => ?_), fun z hz2 => (h.h z hz2).keep k (fun b hb => ?_)⟩
  · rcases hc b hb with h1 | h1 | h1
    · exact .inl h1
    · have := (hX b h1).1; exact .inr (by omega)
    · exact .inr (by omega)
  · rcases hc _ hb with h1 | h1 | h1
    · omega
    · have := (hX _ h1).1; omega
    · omega
  · rcases hc _ hb with h1 | h1 | h1
    · omega
    · have := (hX _ h1).1; omega
    · omega
  · rcases hc b hC with h1 | h1 | h1
    · omega
    · exact (hX b h1).2 hb
    · have := (own_bd h.o hb).2; omega
  · rcases hc b hb with h1 | h1 | h1
    · exact .inl (.inl (by omega))
    · exact .inl (.inr (.inr h1))
    · exact .inr h1
theorem PS.drew {s : ByteArray} {rb d n : Nat} {w wx : World} {zs : List ZNd} {v : Value} {X : Nat → Prop} {ai : Nat} {er bd : Int} (h : PS s rb d n w zs v X ai er bd wx) (m : Nat) : PS s rb d n w zs v X ai er bd (wx.drewN m) :=
  ⟨h.r, h.k.drewN m, h.p, h.q, h.z, h.o, fun z hz => (h.h z hz).kp_of ((Kp.refl (fun _ => False) wx).drewN m) (fun b h => h.elim)⟩
theorem NdOk.drew {B : Nat → Prop} {w : World} {v : Value} {t : RT} (h : NdOk B w v t) (m : Nat) : NdOk B (w.drewN m) v t := h.kp_of ((Kp.refl (fun _ => False) w).drewN m) (fun b h => h.elim)
def contP (g d : Nat) (acc : List RT) (A : Option (RT × List UInt8)) : Option (RT × List UInt8) := match A with
  | none => none
  | some (a, l1) => piecesL g d (acc ++ [(sufL a l1).1]) (sufL a l1).2
/-- A new block comes into use. -/
theorem PS.use {s : ByteArray} {rb d n : Nat} {w wx : World} {zs : List ZNd} {v : Value} {ai : Nat} {er bd : Int} (h : PS s rb d n w zs v (fun _ => False) ai er bd wx) (M : Nat) (hM : wx.heap.size ≤ M) : PS s rb d n w zs v (· = M) ai er bd wx :=
  ⟨h.r, h.k, h.p, h.q, h.z, h.o, fun z hz => ((h.h z hz).new).mono (fun b hb => by
    rcases hb with h1 | h1 | h1
    · exact .inl (.inl h1)
    · exact .inl (.inr (.inl h1))
    · exact .inr (by omega))⟩
/-- Where pieces stand. -/
def PJ (s : ByteArray) (rb d p n f : Nat) (w : World) (R : Option (RT × List UInt8)) (gk : Nat) (wr : World) : Prop :=
  ∃ (zs : List ZNd) (v : Value) (ai : Nat) (er bd : Int), R4 wr rb s ai d er bd ∧ Kp (· = rb) w wr ∧ NdB wr (n + 1) (v, .node 1 (zs.map (·.2)) noS) ∧ NdB wr n (zN 0) ∧ n + 2 ≤ wr.heap.size ∧ wr.ownsRow (n + 2) NdT 258 v zs.length (zs.flatMap nenc) ∧
    (∀ z ∈ zs, NdOk (fun b => b < n + 2 ∨ v.ownBlock = some b) wr z.1 z.2) ∧ 1 ≤ gk ∧ ai + d ≤ s.size + 41 ∧
    ((er = 0 ∧ ai ≤ s.size ∧ p ≤ ai ∧ zs.length ≤ ai ∧ s.size + 2 ≤ ai + gk ∧ ∃ f2, 3 * (s.size - ai) + 3 ≤ f2 ∧ f2 ≤ f ∧ piecesL f2 d (zs.map (·.2)) (s.data.toList.drop ai) = R) ∨ (er ≠ 0 ∧ R = none))
set_option maxHeartbeats 8000000 in
theorem r4pieces_any (f : Nat) (HATOM : ∀ g, g < f → AtomC g) : PieceC f := by
  intro rb s p d bad w h hs hps hd hfu
  obtain ⟨R, hR⟩ : ∃ R, piecesL f d [] (s.data.toList.drop p) = R := ⟨_, rfl⟩
  rw [hR]
  have HR := Lib.hid h
  have HL := Lib.hid (heap_lt h)
  have HAT := Lib.hid HATOM
  obtain ⟨n, hn⟩ : ∃ n, w.heap.size = n := ⟨_, rfl⟩
  have HN := Lib.hid hn
  have hne : rb ≠ n ∧ rb ≠ n + 1 ∧ rb < n := by have := HL.out; omega
  have HRR := Lib.hid hR
  clear h hn hR HATOM
  go_enter Tryd.func48, Tryd.ntmps48
  go_wp2_with (first
    | (refine Tryd.stepAllocNd (n := n) rfl rfl HN.out ?_
       intro W1 p1 z1 k1
       have HA1 := Lib.hid p1
       have HZ1 := Lib.hid z1
       have HR1 := Lib.hid (HR.out.kp k1 (fun h => h))
       have HK1 := Lib.hid k1
       clear p1 z1 k1)
    | (refine Tryd.stepBuildN 1 rfl rfl ?_)
    | (refine Tryd.stepAllocNd (n := n + 1) rfl rfl HZ1.out ?_; intro W2 p2 z2 k2)
    | (refine Tryd.stepStoreNd (z' := zN 1) (.tmp 3) (.tmp 6) (n + 1) rfl rfl rfl rfl p2 rfl ?_
       intro W3 p3 z3 k3
       have HK3 := Lib.hid (((HK1.out.mono (C := (· = rb)) (fun _ _ h => h.elim)).trans (k2.mono (C := (· = rb)) (fun _ _ h => h.elim))).trans_new k3 (fun b hb => .inr (by have := HN.out; omega)))
       have HR3 := Lib.hid ((HR1.out.kp k2 (fun h => h)).kp k3 (by have := HN.out; have := HL.out; omega))
       have HP3 := Lib.hid p3
       have HQ3 := Lib.hid ((HA1.out.kp k2 (fun h => h)).kp k3 (by omega))
       have HZ3 := Lib.hid (show W3.heap.size = n + 2 by omega)
       clear p2 z2 k2 p3 z3 k3))
  go_wp2_with fail
  first | go_values | go_simp
  go_loopg [4] (s.size + 3) (fun gk cv wr => PJ s rb d p n f w R gk wr)
  case atStart => exact ⟨[], .slice none 0 0, p, 0, bad, HR3.out, HK3.out, HP3.out, HQ3.out, Nat.le_of_eq HZ3.out.symm, World.ownsRow_nil _ _ _ _, (fun z hz => (by cases hz)), by omega, by omega, .inl ⟨rfl, hps, Nat.le_refl _, Nat.zero_le _, by omega, f, hfu, Nat.le_refl _, HRR.out⟩⟩
  case round =>
    obtain ⟨zs, v, ai, er, bd, hr, hk, hp, hq, hz, ho, hs3, hgk1, had, hcase⟩ := hrel
    have HRW := Lib.hid hr
    have HKW := Lib.hid hk
    have HPW := Lib.hid hp
    have HQW := Lib.hid hq
    have HZW := Lib.hid hz
    have HO := Lib.hid ho
    have HS := Lib.hid hs3
    have HC := Lib.hid hcase
    clear hr hk hp hq hz ho hs3 hcase HR3 HK3 HP3 HQ3 HZ3 HR1 HK1 HA1 HZ1
    obtain ⟨gob, hgob⟩ : ∃ gob, gob = decide (er = 0 ∧ ai < s.size ∧ bAt s ai ≠ 124 ∧ bAt s ai ≠ 41) := ⟨_, rfl⟩
    have HGOB := Lib.hid hgob
    have c0 := HRW.out.c0
    have c1 := HRW.out.c1
    go_upto_region 2 with fail
    go_cut [32] (fun s32 wx => s32 = .bool gob ∧ ∃ m, wx = wr.drewN m)
    case first =>
      by_cases hgo : er = 0 ∧ ai < s.size
      · obtain ⟨rfl, hlt⟩ := hgo
        have HM := Lib.hid (show ∀ k, Calls Tryd.prog 49 #[.pointer (some ⟨rb, 0, none⟩)] (wr.drewN k) fun e w' => e = .returned (.bool true) ∧ ∃ n, w' = (wr.drewN k).drewN n from fun k => by
          have := r4more_any rb s ai d 0 bd (wr.drewN k) (HRW.out.drewN k) hs (by omega)
          rw [decide_eq_true hlt] at this
          exact this)
        have hg := bAt_get hlt
        obtain ⟨c, hc⟩ : ∃ c, bAt s ai = c := ⟨_, rfl⟩
        rw [hc] at hg hgob
        obtain ⟨b1, hb1⟩ : ∃ b1, (c == 124) = b1 := ⟨_, rfl⟩
        obtain ⟨b2, hb2⟩ : ∃ b2, (c == 41) = b2 := ⟨_, rfl⟩
        have e1 : ((c.toNat : Int) != 124) = !b1 := by unfold bne; rw [gu8_lit c 124 124 rfl, hb1]
        have e2 : ((c.toNat : Int) != 41) = !b2 := by unfold bne; rw [gu8_lit c 41 41 rfl, hb2]
        have hgb : gob = (!b1 && !b2) := by
          rw [hgob, ← hb1, ← hb2, Bool.eq_iff_iff, decide_eq_true_iff]
          simp [hlt]
        subst hgb
        clear hgob hb1 hb2 hc
        cases b1
        all_goals cases b2
        all_goals
          go_quiet ((go_at_call 49; first | refine qd (HM.out _) | refine qd0 (HM.out _)))
          go_wp2_with fail
          go_meet
          exact ⟨rfl, _, rfl⟩
      · have HM := Lib.hid (show ∀ k, Calls Tryd.prog 49 #[.pointer (some ⟨rb, 0, none⟩)] (wr.drewN k) fun e w' => e = .returned (.bool false) ∧ ∃ n, w' = (wr.drewN k).drewN n from fun k => by
          have := r4more_any rb s ai d er bd (wr.drewN k) (HRW.out.drewN k) hs (by omega)
          rw [show (er == 0 && decide (ai < s.size)) = false by
            by_cases h0 : er = 0
            · rw [decide_eq_false (fun h => hgo ⟨h0, h⟩), Bool.and_false]
            · rw [beq_eq_false_iff_ne.2 h0, Bool.false_and]] at this
          exact this)
        have hb : gob = false := by rw [hgob, decide_eq_false_iff_not]; exact fun h => hgo ⟨h.1, h.2.1⟩
        subst hb
        clear hgob hgo
        go_quiet ((go_at_call 49; first | refine qd (HM.out _) | refine qd0 (HM.out _)))
        go_wp2_with fail
        go_meet
        exact ⟨rfl, _, rfl⟩
    case rest =>
      obtain ⟨rfl, m7, rfl⟩ := hcut
      have kd : Kp (fun _ => False) wr (wr.drewN m7) := (Kp.refl _ _).drewN m7
      have HR7 := Lib.hid (HRW.out.drewN m7)
      have HK7 := Lib.hid (HKW.out.drewN m7)
      have HP7 := Lib.hid (HPW.out.kp kd (fun h => h))
      have HQ7 := Lib.hid (HQW.out.kp kd (fun h => h))
      have HZ7 := Lib.hid (show n + 2 ≤ (wr.drewN m7).heap.size from HZW.out)
      have HO7 := Lib.hid (own_kp HO.out kd (fun b _ _ h => h))
      have HS7 := Lib.hid (show ∀ z ∈ zs, NdOk (fun b => b < n + 2 ∨ v.ownBlock = some b) (wr.drewN m7) z.1 z.2 from fun z hz => (HS.out z hz).kp_of kd (fun b h => h.elim))
      generalize wr.drewN m7 = w7 at HR7 HK7 HP7 HQ7 HZ7 HO7 HS7 ⊢
      clear kd c0 c1 HRW HKW HPW HQW HZW HO HS hgob
      cases gob with
      | false =>
        have HNK := Lib.hid (NdOk.own HO7.out HS7.out 1 noS)
        have hx := of_decide_eq_false HGOB.out.symm
        have HE := Lib.hid (show (er = 0 ∧ R = some (.node 1 (zs.map (·.2)) noS, s.data.toList.drop ai) ∧ ai ≤ s.size ∧ p ≤ ai) ∨ (er ≠ 0 ∧ R = none) by
          rcases HC.out with ⟨h1, h2, h3, h4, h5, f2, h6, h7, h8⟩ | h
          · obtain ⟨g, rfl⟩ : ∃ g, f2 = g + 1 := ⟨f2 - 1, by omega⟩
            refine .inl ⟨h1, ?_, h2, h3⟩
            rw [← h8]
            by_cases hlt : ai < s.size
            · rw [drop_bAt hlt]
              unfold piecesL
              simp only
              rw [if_pos]
              by_cases h9 : bAt s ai = 124
              · exact .inl h9
              · by_cases h10 : bAt s ai = 41
                · exact .inr h10
                · exact absurd ⟨h1, hlt, h9, h10⟩ hx
            · rw [drop_over (by omega)]
              unfold piecesL
              rfl
          · exact .inr h)
        clear hx HGOB HC
        go_wp2_with (first
          | (refine Tryd.stepLoadNd (z := (v, .node 1 (zs.map (·.2)) noS)) (.tmp 3) (n + 1) rfl rfl rfl HP7.out ?_)
          | (refine Tryd.stepStoreNd (z := zN 0) (z' := (v, .node 1 (zs.map (·.2)) noS)) (.tmp 2) (.tmp 118) n rfl rfl rfl rfl HQ7.out HNK.out.one ?_
             intro W9 p9 z9 k9))
        refine bodyPost_ret (Tryd.resultNd rfl rfl p9) rfl ⟨v, .node 1 (zs.map (·.2)) noS, ai, er, bd, rfl, HR7.out.kp k9 (by have := hne; omega), HK7.out.trans_new k9 (fun b hb => .inr (by have := HN.out; omega)), had, ?_, HE.out⟩
        exact (HNK.out.kp_of k9 (fun b hb => by omega)).mono (fun b hb => by have := HN.out; omega)
      | true =>
        have hx := of_decide_eq_true HGOB.out.symm
        obtain ⟨rfl, hlt, h124, h41⟩ := hx
        have hbody : ∃ g, ai ≤ s.size ∧ p ≤ ai ∧ zs.length ≤ ai ∧ s.size + 2 ≤ ai + gk ∧ 3 * (s.size - ai) + 2 ≤ g ∧ g < f ∧ piecesL (g + 1) d (zs.map (·.2)) (s.data.toList.drop ai) = R := by
          rcases HC.out with ⟨h1, h2, h3, h4, h5, f2, h6, h7, h8⟩ | h
          · obtain ⟨g, rfl⟩ : ∃ g, f2 = g + 1 := ⟨f2 - 1, by omega⟩
            exact ⟨g, h2, h3, h4, h5, by omega, by omega, h8⟩
          · exact absurd rfl h.1
        obtain ⟨g, has, hpa, hzl, hgk, hg1, hg2, hv⟩ := hbody
        have hgt := bAt_get hlt
        rw [drop_bAt hlt] at hv
        obtain ⟨c, hc⟩ : ∃ c, bAt s ai = c := ⟨_, rfl⟩
        rw [hc] at hgt hv h124 h41
        unfold piecesL at hv
        simp only at hv
        rw [if_neg (by rintro (h | h); exact h124 h; exact h41 h)] at hv
        have HDR := Lib.hid (show s.data.toList.drop ai = c :: s.data.toList.drop (ai + 1) by rw [drop_bAt hlt, hc])
        clear HGOB HC h124 h41 hc
        have c0 := HR7.out.c0
        have c1 := HR7.out.c1
        by_cases hbad : c = 42 ∨ c = 43 ∨ c = 63 ∨ c = 93
        · rw [if_pos hbad] at hv
          have HV := Lib.hid hv
          have HNK := Lib.hid (NdOk.own HO7.out HS7.out 1 noS)
          have hx2 : ((c.toNat : Int) == 42) = true ∨ (((c.toNat : Int) == 42) = false ∧ ((c.toNat : Int) == 43) = true) ∨ (((c.toNat : Int) == 42) = false ∧ ((c.toNat : Int) == 43) = false ∧ ((c.toNat : Int) == 63) = true) ∨ (((c.toNat : Int) == 42) = false ∧ ((c.toNat : Int) == 43) = false ∧ ((c.toNat : Int) == 63) = false ∧ ((c.toNat : Int) == 93) = true) := by
            rcases hbad with rfl | rfl | rfl | rfl <;> decide
          clear hv hbad
          rcases hx2 with y1 | ⟨y1, y2⟩ | ⟨y1, y2, y3⟩ | ⟨y1, y2, y3, y4⟩
          all_goals
            go_wp2_with fail
            go_quiet (fail)
            go_wp2_with fail
            refine (r4fail_any rb s ai d bd 2 _ _ (HR7.out.drewN _)).mono ?_
            rintro e w10 ⟨rfl, hr10, hk10⟩
            have HR10 := Lib.hid hr10
            have HK10 := Lib.hid ((HK7.out.drewN _).trans hk10)
            have HP10 := Lib.hid ((HP7.out.kp ((Kp.refl (fun _ => False) w7).drewN _) (fun h => h)).kp hk10 (by have := hne; omega))
            have HQ10 := Lib.hid ((HQ7.out.kp ((Kp.refl (fun _ => False) w7).drewN _) (fun h => h)).kp hk10 (by have := hne; omega))
            have HN10 := Lib.hid ((HNK.out.kp_of ((Kp.refl (fun _ => False) w7).drewN _) (fun b h => h.elim)).kp_of hk10 (fun b hb => by have := hne; omega))
            clear hr10 hk10
            go_wp2_with (first
              | (refine Tryd.stepLoadNd (z := (v, .node 1 (zs.map (·.2)) noS)) (.tmp 3) (n + 1) rfl rfl rfl HP10.out ?_)
              | (refine Tryd.stepStoreNd (z := zN 0) (z' := (v, .node 1 (zs.map (·.2)) noS)) (.tmp 2) (.tmp 62) n rfl rfl rfl rfl HQ10.out HN10.out.one ?_
                 intro W9 p9 z9 k9))
            refine bodyPost_ret (Tryd.resultNd rfl rfl p9) rfl ⟨v, .node 1 (zs.map (·.2)) noS, ai, 2, _, rfl, HR10.out.kp k9 (by have := hne; omega), HK10.out.trans_new k9 (fun b hb => .inr (by have := HN.out; omega)), had, ?_, .inr ⟨by decide, HV.out.symm⟩⟩
            exact (HN10.out.kp_of k9 (fun b hb => by omega)).mono (fun b hb => by have := HN.out; omega)
        rw [if_neg hbad] at hv
        have y1 : ((c.toNat : Int) == 42) = false := by rw [gu8_lit c 42 42 rfl]; exact beq_eq_false_iff_ne.2 (fun h => hbad (.inl h))
        have y2 : ((c.toNat : Int) == 43) = false := by rw [gu8_lit c 43 43 rfl]; exact beq_eq_false_iff_ne.2 (fun h => hbad (.inr (.inl h)))
        have y3 : ((c.toNat : Int) == 63) = false := by rw [gu8_lit c 63 63 rfl]; exact beq_eq_false_iff_ne.2 (fun h => hbad (.inr (.inr (.inl h))))
        have y4 : ((c.toNat : Int) == 93) = false := by rw [gu8_lit c 93 93 rfl]; exact beq_eq_false_iff_ne.2 (fun h => hbad (.inr (.inr (.inr h))))
        obtain ⟨A1, hA1⟩ : ∃ A1, A1 = atomL g d (s.data.toList.drop ai) := ⟨_, rfl⟩
        have HV := Lib.hid (show contP g d (zs.map (·.2)) A1 = R by rw [hA1, HDR.out]; exact hv)
        have HPS := Lib.hid (show PS s rb d n w zs v (fun _ => False) ai 0 bd w7 from ⟨HR7.out, HK7.out, HP7.out, HQ7.out, HZ7.out, HO7.out, fun z hz => (HS7.out z hz).mono (fun b hb => by
          rcases hb with h1 | h1 | h1
          · exact .inl h1
          · exact .inr h1
          · exact h1.elim)⟩)
        clear hv hbad HR7 HK7 HP7 HQ7 HZ7 HO7 HS7
        go_wp2_with fail
        go_quiet (fail)
        generalize hW8 : w7.drewN _ = w8
        have HP8 := Lib.hid (show PS s rb d n w zs v (fun _ => False) ai 0 bd w8 by
          rw [← hW8]
          exact HPS.out.drew _)
        clear hW8 HPS c0 c1
        go_wp2_with fail
        have HA := Lib.hid (HAT.out g hg2 rb s ai d bd w8 HP8.out.r hs hlt hd hg1)
        rw [← hA1] at HA
        clear hA1
        refine HA.out.mono ?_
        rintro e w10 ⟨v2, t2, a2, er2, bd2, rfl, hr10, hk10, had2, hn10, hc10⟩
        have HP10 := Lib.hid (HP8.out.step HN.out hne.2.2 (fun b h => h.elim) hk10 (fun b hb => .inl hb) hr10)
        have HN10 := Lib.hid (show NdOk (fun b => b < n + 2 ∨ v.ownBlock = some b) w10 v2 t2 from hn10.mono (fun b hb => by
          have h1 := HP8.out.z
          rcases hb with h2 | h2
          · omega
          · exact (own_bd HP8.out.o h2).2))
        have HC10 := Lib.hid hc10
        clear hr10 hk10 hn10 hc10 HA HP8
        obtain ⟨M, hM⟩ : ∃ M, w10.heap.size = M := ⟨_, rfl⟩
        have HM := Lib.hid hM
        have hnM : n + 2 ≤ M := by rw [← hM]; exact HP10.out.z
        have HXM := Lib.hid (show ∀ b, b = M → n + 2 ≤ b ∧ v.ownBlock ≠ some b from fun b hb => ⟨by omega, fun e => by have := (own_bd HP10.out.o e).2; omega⟩)
        clear hM
        go_wp2_with (first
          | (refine Tryd.stepAllocNd (n := M) rfl rfl HM.out ?_
             intro W1 p1 z1 k1
             have HA1 := Lib.hid p1
             have HZ1 := Lib.hid z1
             have HK1 := Lib.hid k1
             clear p1 z1 k1)
          | (refine Tryd.stepStoreNd (z := zN 0) (z' := (v2, t2)) (.tmp 5) (.tmp 64) M rfl rfl rfl rfl HA1.out HN10.out.one ?_
             intro W2 p2 z2 k2
             have HM2 := Lib.hid p2
             have HZ2 := Lib.hid (show M < W2.heap.size by rw [z2, HZ1.out]; omega)
             have HP2 := Lib.hid ((HP10.out.use M (Nat.le_of_eq HM.out)).step (wy := W2) HN.out hne.2.2 HXM.out (HK1.out.mono (C := fun b => b = M) (fun _ _ h => h.elim) |>.trans k2) (fun b hb => .inr (.inl hb)) ((HP10.out.r.kp HK1.out (fun h => h)).kp k2 (by omega)))
             have HN2 := Lib.hid (show NdOk (fun b => b < n + 2 ∨ v.ownBlock = some b ∨ b = M) W2 v2 t2 from ((HN10.out.new).kp_of (HK1.out.mono (C := fun b => b = M) (fun _ _ h => h.elim) |>.trans k2) (fun b hb => .inr (by have := HM.out; omega))).mono (fun b hb => by
               rcases hb with h1 | h1 | h1
               · exact .inl (.inl h1)
               · exact .inl (.inr h1)
               · exact .inr (by have := HM.out; omega)))
             clear p2 z2 k2 HA1 HZ1 HK1))
        obtain ⟨mb, hmb⟩ : ∃ mb, (er2 == 0 && decide (a2 < s.size)) = mb := ⟨_, rfl⟩
        have HMB := Lib.hid hmb
        have HMO := Lib.hid (r4more_any rb s a2 d er2 bd2 W2 HP2.out.r hs (by omega))
        rw [hmb] at HMO
        clear hmb
        refine HMO.out.mono ?_
        rintro e w12 ⟨rfl, m12, rfl⟩
        have HP12 := Lib.hid (HP2.out.drew m12)
        have HN12 := Lib.hid (HN2.out.drew m12)
        have HM12 := Lib.hid (show NdB (W2.drewN m12) M (v2, t2) from HM2.out)
        have HZ12 := Lib.hid (show M < (W2.drewN m12).heap.size from HZ2.out)
        generalize W2.drewN m12 = w12 at HP12 HN12 HM12 HZ12 ⊢
        clear HP2 HN2 HM2 HZ2 HMO HP10 HN10
        go_upto_if 66 with fail
        go_cut [] (fun wx => ∃ (v3 : Value) (t3 : RT) (a3 : Nat), PS s rb d n w zs v (· = M) a3 er2 bd2 wx ∧ NdB wx M (v3, t3) ∧ NdOk (fun b => b < n + 2 ∨ v.ownBlock = some b ∨ b = M) wx v3 t3 ∧ M < wx.heap.size ∧ a2 ≤ a3 ∧ a3 + d ≤ s.size + 41 ∧ (er2 = 0 → a2 ≤ s.size → a3 ≤ s.size ∧ sufL t2 (s.data.toList.drop a2) = (t3, s.data.toList.drop a3)))
        case first =>
          cases mb with
          | false =>
            go_wp2_with fail
            go_meet
            refine ⟨v2, t2, a2, HP12.out, HM12.out, HN12.out, HZ12.out, Nat.le_refl _, had2, fun h0 hle => ⟨hle, ?_⟩⟩
            have h1 := HMB.out
            rw [h0] at h1
            have h2 : ¬ a2 < s.size := by simpa using h1
            rw [drop_over (by omega)]
            rfl
          | true =>
            have hx := HMB.out
            rw [Bool.and_eq_true, beq_iff_eq, decide_eq_true_eq] at hx
            obtain ⟨rfl, hlt2⟩ := hx
            have hg2' := bAt_get hlt2
            have HD2 := Lib.hid (drop_bAt hlt2)
            obtain ⟨c', hc'⟩ : ∃ c', bAt s a2 = c' := ⟨_, rfl⟩
            rw [hc'] at hg2' HD2
            have c0 := HP12.out.r.c0
            have c1 := HP12.out.r.c1
            have e42 : ((c'.toNat : Int) == 42) = (c' == 42) := gu8_lit c' 42 42 rfl
            have e43 : ((c'.toNat : Int) == 43) = (c' == 43) := gu8_lit c' 43 43 rfl
            have e63 : ((c'.toNat : Int) == 63) = (c' == 63) := gu8_lit c' 63 63 rfl
            clear hc' y1 y2 y3 y4 hgt
            by_cases h42 : c' = 42
            · replace e42 : ((c'.toNat : Int) == 42) = true := by rw [e42]; simpa using h42
              have HSU := Lib.hid (show sufL t2 (s.data.toList.drop a2) = (.node 4 [t2] noS, s.data.toList.drop (a2 + 1)) by rw [HD2.out, h42]; rfl)
              clear e43 e63 h42
              go_wp2_with fail
              go_quiet (fail)
              generalize hW13 : w12.drewN _ = w13
              have HP13 := Lib.hid (show PS s rb d n w zs v (· = M) a2 0 bd2 w13 by
                rw [← hW13]
                exact HP12.out.drew _)
              have HN13 := Lib.hid (show NdOk (fun b => b < n + 2 ∨ v.ownBlock = some b ∨ b = M) w13 v2 t2 by rw [← hW13]; exact HN12.out.drew _)
              have HM13 := Lib.hid (show NdB w13 M (v2, t2) by rw [← hW13]; exact HM12.out)
              have HZ13 := Lib.hid (show M < w13.heap.size by rw [← hW13]; exact HZ12.out)
              clear hW13 HP12 HN12 HM12 HZ12 c0 c1
              go_wp2_with (first
                | (refine Tryd.stepLoadNd (z := (v2, t2)) (.tmp 5) M rfl rfl rfl HM13.out ?_)
                | (refine Tryd.stepSliceNd (z := (v2, t2)) (.tmp 78) rfl rfl rfl ?_)
                | (refine Tryd.stepBuildNV 4 (.tmp 79) (some ⟨w13.heap.size, 0, none⟩) 1 1 [t2] rfl rfl rfl ?_)
                | (refine Tryd.stepStoreNd (z := (v2, t2)) (z' := (.slice (some ⟨w13.heap.size, 0, none⟩) 1 1, .node 4 [t2] noS)) (.tmp 5) (.tmp 80) M rfl rfl rfl rfl (HM13.out.kp ((Kp.refl (fun _ => False) w13).alloc _) (fun h => h)) rfl ?_
                   intro W9 p9 z9 k9
                   have HK9 := Lib.hid (((Kp.refl (fun _ => False) w13).alloc (.cells (nenc (v2, t2)).toArray NdT)).mono (C := fun b => b = M) (fun _ _ h => h.elim) |>.trans k9)
                   have HM9 := Lib.hid p9
                   have HP9 := Lib.hid (HP13.out.step HN.out hne.2.2 HXM.out HK9.out (fun b hb => .inr (.inl hb)) (HP13.out.r.kp HK9.out (by omega)))
                   have HZ9 := Lib.hid (Nat.lt_of_lt_of_le HZ13.out HK9.out.size)
                   have HN9 := Lib.hid (show NdOk (fun b => b < n + 2 ∨ v.ownBlock = some b ∨ b = M) W9 (.slice (some ⟨w13.heap.size, 0, none⟩) 1 1) (.node 4 [t2] noS) from (NdOk.wrap HN13.out 4 (by
                     have h1 := HP13.out.z
                     have h2 := HZ13.out
                     rintro (h3 | h3 | h3)
                     · omega
                     · have := (own_bd HP13.out.o h3).2; omega
                     · omega)).kp_of k9 (fun b hb => .inr (.inr hb)))
                   have c1 := HP9.out.r.c1
                   have f1 := HP9.out.r.fz 1
                   clear p9 z9 k9))
              go_meet
              exact ⟨_, _, a2 + 1, HP9.out.step HN.out hne.2.2 HXM.out ((Kp.refl (· = rb) W9).setCell (p := ⟨rb, 1, none⟩) (.inl rfl) _) (fun b hb => .inl hb) (HP9.out.r.put1 (a2 + 1)), HM9.out.kp ((Kp.refl (· = rb) W9).setCell (p := ⟨rb, 1, none⟩) (.inl rfl) _) (by omega), HN9.out.kp_of ((Kp.refl (· = rb) W9).setCell (p := ⟨rb, 1, none⟩) (.inl rfl) _) (fun b hb => .inl (by omega)), Nat.lt_of_lt_of_le HZ9.out ((Kp.refl (· = rb) W9).setCell (p := ⟨rb, 1, none⟩) (.inl rfl) _).size, Nat.le_succ _, by omega, fun h0 hle => ⟨hlt2, HSU.out⟩⟩
            replace e42 : ((c'.toNat : Int) == 42) = false := by rw [e42]; simpa using h42
            by_cases h43 : c' = 43
            · replace e43 : ((c'.toNat : Int) == 43) = true := by rw [e43]; simpa using h43
              have HSU := Lib.hid (show sufL t2 (s.data.toList.drop a2) = (.node 5 [t2] noS, s.data.toList.drop (a2 + 1)) by rw [HD2.out, h43]; rfl)
              clear e63 h42 h43
              go_wp2_with fail
              go_quiet (fail)
              generalize hW13 : w12.drewN _ = w13
              have HP13 := Lib.hid (show PS s rb d n w zs v (· = M) a2 0 bd2 w13 by
                rw [← hW13]
                exact HP12.out.drew _)
              have HN13 := Lib.hid (show NdOk (fun b => b < n + 2 ∨ v.ownBlock = some b ∨ b = M) w13 v2 t2 by rw [← hW13]; exact HN12.out.drew _)
              have HM13 := Lib.hid (show NdB w13 M (v2, t2) by rw [← hW13]; exact HM12.out)
              have HZ13 := Lib.hid (show M < w13.heap.size by rw [← hW13]; exact HZ12.out)
              clear hW13 HP12 HN12 HM12 HZ12 c0 c1
              go_wp2_with (first
                | (refine Tryd.stepLoadNd (z := (v2, t2)) (.tmp 5) M rfl rfl rfl HM13.out ?_)
                | (refine Tryd.stepSliceNd (z := (v2, t2)) (.tmp 90) rfl rfl rfl ?_)
                | (refine Tryd.stepBuildNV 5 (.tmp 91) (some ⟨w13.heap.size, 0, none⟩) 1 1 [t2] rfl rfl rfl ?_)
                | (refine Tryd.stepStoreNd (z := (v2, t2)) (z' := (.slice (some ⟨w13.heap.size, 0, none⟩) 1 1, .node 5 [t2] noS)) (.tmp 5) (.tmp 92) M rfl rfl rfl rfl (HM13.out.kp ((Kp.refl (fun _ => False) w13).alloc _) (fun h => h)) rfl ?_
                   intro W9 p9 z9 k9
                   have HK9 := Lib.hid (((Kp.refl (fun _ => False) w13).alloc (.cells (nenc (v2, t2)).toArray NdT)).mono (C := fun b => b = M) (fun _ _ h => h.elim) |>.trans k9)
                   have HM9 := Lib.hid p9
                   have HP9 := Lib.hid (HP13.out.step HN.out hne.2.2 HXM.out HK9.out (fun b hb => .inr (.inl hb)) (HP13.out.r.kp HK9.out (by omega)))
                   have HZ9 := Lib.hid (Nat.lt_of_lt_of_le HZ13.out HK9.out.size)
                   have HN9 := Lib.hid (show NdOk (fun b => b < n + 2 ∨ v.ownBlock = some b ∨ b = M) W9 (.slice (some ⟨w13.heap.size, 0, none⟩) 1 1) (.node 5 [t2] noS) from (NdOk.wrap HN13.out 5 (by
                     have h1 := HP13.out.z
                     have h2 := HZ13.out
                     rintro (h3 | h3 | h3)
                     · omega
                     · have := (own_bd HP13.out.o h3).2; omega
                     · omega)).kp_of k9 (fun b hb => .inr (.inr hb)))
                   have c1 := HP9.out.r.c1
                   have f1 := HP9.out.r.fz 1
                   clear p9 z9 k9))
              go_meet
              exact ⟨_, _, a2 + 1, HP9.out.step HN.out hne.2.2 HXM.out ((Kp.refl (· = rb) W9).setCell (p := ⟨rb, 1, none⟩) (.inl rfl) _) (fun b hb => .inl hb) (HP9.out.r.put1 (a2 + 1)), HM9.out.kp ((Kp.refl (· = rb) W9).setCell (p := ⟨rb, 1, none⟩) (.inl rfl) _) (by omega), HN9.out.kp_of ((Kp.refl (· = rb) W9).setCell (p := ⟨rb, 1, none⟩) (.inl rfl) _) (fun b hb => .inl (by omega)), Nat.lt_of_lt_of_le HZ9.out ((Kp.refl (· = rb) W9).setCell (p := ⟨rb, 1, none⟩) (.inl rfl) _).size, Nat.le_succ _, by omega, fun h0 hle => ⟨hlt2, HSU.out⟩⟩
            replace e43 : ((c'.toNat : Int) == 43) = false := by rw [e43]; simpa using h43
            by_cases h63 : c' = 63
            · replace e63 : ((c'.toNat : Int) == 63) = true := by rw [e63]; simpa using h63
              have HSU := Lib.hid (show sufL t2 (s.data.toList.drop a2) = (.node 6 [t2] noS, s.data.toList.drop (a2 + 1)) by rw [HD2.out, h63]; rfl)
              clear h42 h43 h63
              go_wp2_with fail
              go_quiet (fail)
              generalize hW13 : w12.drewN _ = w13
              have HP13 := Lib.hid (show PS s rb d n w zs v (· = M) a2 0 bd2 w13 by
                rw [← hW13]
                exact HP12.out.drew _)
              have HN13 := Lib.hid (show NdOk (fun b => b < n + 2 ∨ v.ownBlock = some b ∨ b = M) w13 v2 t2 by rw [← hW13]; exact HN12.out.drew _)
              have HM13 := Lib.hid (show NdB w13 M (v2, t2) by rw [← hW13]; exact HM12.out)
              have HZ13 := Lib.hid (show M < w13.heap.size by rw [← hW13]; exact HZ12.out)
              clear hW13 HP12 HN12 HM12 HZ12 c0 c1
              go_wp2_with (first
                | (refine Tryd.stepLoadNd (z := (v2, t2)) (.tmp 5) M rfl rfl rfl HM13.out ?_)
                | (refine Tryd.stepSliceNd (z := (v2, t2)) (.tmp 102) rfl rfl rfl ?_)
                | (refine Tryd.stepBuildNV 6 (.tmp 103) (some ⟨w13.heap.size, 0, none⟩) 1 1 [t2] rfl rfl rfl ?_)
                | (refine Tryd.stepStoreNd (z := (v2, t2)) (z' := (.slice (some ⟨w13.heap.size, 0, none⟩) 1 1, .node 6 [t2] noS)) (.tmp 5) (.tmp 104) M rfl rfl rfl rfl (HM13.out.kp ((Kp.refl (fun _ => False) w13).alloc _) (fun h => h)) rfl ?_
                   intro W9 p9 z9 k9
                   have HK9 := Lib.hid (((Kp.refl (fun _ => False) w13).alloc (.cells (nenc (v2, t2)).toArray NdT)).mono (C := fun b => b = M) (fun _ _ h => h.elim) |>.trans k9)
                   have HM9 := Lib.hid p9
                   have HP9 := Lib.hid (HP13.out.step HN.out hne.2.2 HXM.out HK9.out (fun b hb => .inr (.inl hb)) (HP13.out.r.kp HK9.out (by omega)))
                   have HZ9 := Lib.hid (Nat.lt_of_lt_of_le HZ13.out HK9.out.size)
                   have HN9 := Lib.hid (show NdOk (fun b => b < n + 2 ∨ v.ownBlock = some b ∨ b = M) W9 (.slice (some ⟨w13.heap.size, 0, none⟩) 1 1) (.node 6 [t2] noS) from (NdOk.wrap HN13.out 6 (by
                     have h1 := HP13.out.z
                     have h2 := HZ13.out
                     rintro (h3 | h3 | h3)
                     · omega
                     · have := (own_bd HP13.out.o h3).2; omega
                     · omega)).kp_of k9 (fun b hb => .inr (.inr hb)))
                   have c1 := HP9.out.r.c1
                   have f1 := HP9.out.r.fz 1
                   clear p9 z9 k9))
              go_meet
              exact ⟨_, _, a2 + 1, HP9.out.step HN.out hne.2.2 HXM.out ((Kp.refl (· = rb) W9).setCell (p := ⟨rb, 1, none⟩) (.inl rfl) _) (fun b hb => .inl hb) (HP9.out.r.put1 (a2 + 1)), HM9.out.kp ((Kp.refl (· = rb) W9).setCell (p := ⟨rb, 1, none⟩) (.inl rfl) _) (by omega), HN9.out.kp_of ((Kp.refl (· = rb) W9).setCell (p := ⟨rb, 1, none⟩) (.inl rfl) _) (fun b hb => .inl (by omega)), Nat.lt_of_lt_of_le HZ9.out ((Kp.refl (· = rb) W9).setCell (p := ⟨rb, 1, none⟩) (.inl rfl) _).size, Nat.le_succ _, by omega, fun h0 hle => ⟨hlt2, HSU.out⟩⟩
            replace e63 : ((c'.toNat : Int) == 63) = false := by rw [e63]; simpa using h63
            have HSU := Lib.hid (show sufL t2 (s.data.toList.drop a2) = (t2, s.data.toList.drop a2) by
              rw [HD2.out]
              unfold sufL
              rw [if_neg (fun h => h42 (by injection h)), if_neg (fun h => h43 (by injection h)), if_neg (fun h => h63 (by injection h))])
            clear h42 h43 h63
            go_wp2_with fail
            go_quiet (fail)
            go_wp2_with fail
            go_meet
            exact ⟨v2, t2, a2, HP12.out.drew _, HM12.out, HN12.out.drew _, HZ12.out, Nat.le_refl _, had2, fun h0 hle => ⟨hle, HSU.out⟩⟩
        case rest =>
          obtain ⟨v3, t3, a3, hp3, hm3, hn3, hz3, ha3, had3, hsu3⟩ := hcut
          have HP3 := Lib.hid hp3
          have HM3 := Lib.hid hm3
          have HN3 := Lib.hid hn3
          have HZ3 := Lib.hid hz3
          have HSU := Lib.hid hsu3
          clear hp3 hm3 hn3 hz3 hsu3 HP12 HN12 HM12 HZ12
          have hzl1 : zs.length ≤ 100000 := by omega
          have p1c : wc.cell? ⟨n + 1, 1, none⟩ = some v := HP3.out.p.c1
          go_wp2_with (first
            | (refine Tryd.stepLoadNd (z := (v3, t3)) (.tmp 5) M rfl rfl rfl HM3.out ?_)
            | (refine Tryd.stepSliceNd (z := (v3, t3)) (.tmp 114) rfl rfl rfl ?_)
            | (refine Tryd.stepAppendNd (v := v) (zs := zs) (z := (v3, t3)) (N := n + 2) (.tmp 113) (.tmp 115) wc.heap.size rfl rfl rfl rfl (World.ownsRow.alloc HP3.out.o _) (heap_new wc _) HN3.out.one hzl1 (by have := HP3.out.z; simp; omega) ?_
               intro v' w3 hown hgrow hat
               have HOW := Lib.hid hown
               have HGR := Lib.hid hgrow
               have HAT2 := Lib.hid hat
               have HP4 := Lib.hid ((HP3.out.p.kp (Kp.of_below (B := fun _ => False) ((Below.refl _ _).alloc (Nat.le_refl _) _)) (fun h => h)).kp (Kp.of_grown hgrow (B := fun b => v.ownBlock = some b) (fun b hb => hb)) (fun h => by have := own_base HP3.out.o h; omega))
               have f4 := HP4.out.fz 1
               have p4c : w3.cell? ⟨n + 1, 1, none⟩ = some v := HP4.out.c1
               have hki : ∀ y ∈ zs ++ [(v3, t3)], NdOk (fun b => b < n + 2 ∨ v'.ownBlock = some b) w3 y.1 y.2 := kids_app (w := w) (w2 := wc) (X := wc.alloc (.cells (nenc (v3, t3)).toArray NdT)) (w' := w3) (N := n + 2) (v := v) (v' := v') (zs := zs) (z := (v3, t3)) (fun z hz => (HP3.out.h z hz).mono (fun b hb => by
                 rcases hb with h1 | h1
                 · exact .inl h1
                 · exact .inr (.inl h1))) (HN3.out.mono (fun b hb => by
                 rcases hb with h1 | h1
                 · exact .inl h1
                 · exact .inr (.inl h1))) ((Below.refl _ _).alloc (Nat.le_refl _) _) hgrow hat
               have HKI := Lib.hid hki
               clear hki
               obtain ⟨g', cap', hv'⟩ := own_some hown (by simp)
               rw [List.length_append, List.length_singleton] at hv'
               subst hv'
               clear hown hgrow hat))
          have hX : Below wc.heap.size wc (wc.alloc (.cells (nenc (v3, t3)).toArray NdT)) := (Below.refl _ _).alloc (Nat.le_refl _) _
          have kk : Kp (fun b => v.ownBlock = some b) wc w3 := (Kp.of_below hX).trans (Kp.of_grown HGR.out (fun b hb => hb))
          have ks : ∀ u, Kp (· = n + 1) w3 (w3.setCell ⟨n + 1, 1, none⟩ u) := fun u => (Kp.refl (· = n + 1) w3).setCell (p := ⟨n + 1, 1, none⟩) (.inl rfl) u
          have hob : ∀ b, v.ownBlock = some b → n + 2 ≤ b := fun b hb => own_base HP3.out.o hb
          have HKK := Lib.hid kk
          have HKS := Lib.hid ks
          clear kk ks hX
          go_roundg (gk - 1)
          case measure => omega
          case rel =>
            refine ⟨zs ++ [(v3, t3)], .slice (some ⟨g', 0, none⟩) (zs.length + 1) cap', a3, er2, bd2, ?_, ?_, ?_, ?_, ?_, ?_, ?_, by omega, had3, ?_⟩
            · exact (HP3.out.r.kp HKK.out (fun h => by have := hob _ h; omega)).kp (HKS.out _) (by omega)
            · exact (HP3.out.k.trans_new HKK.out (fun b hb => .inr (by have := hob _ hb; have := HN.out; omega))).trans_new (HKS.out _) (fun b hb => .inr (by have := HN.out; omega))
            · exact HP4.out.putKids
            · exact (HP3.out.q.kp HKK.out (fun h => by have := hob _ h; omega)).kp (HKS.out _) (by omega)
            · exact Nat.le_trans HP3.out.z (Nat.le_trans HKK.out.size (HKS.out _).size)
            · exact own_kp HOW.out (HKS.out _) (fun b _ hl hc => by omega)
            · exact fun z hz => (HKI.out z hz).kp_of (HKS.out _) (fun b hb => .inl (by omega))
            · rcases HC10.out with ⟨h1, h2, h3, h4⟩ | ⟨h1, h2⟩
              · obtain ⟨h5, h6⟩ := HSU.out h1 h3
                have hv := HV.out
                rw [h2] at hv
                refine .inl ⟨h1, h5, by omega, by rw [List.length_append, List.length_singleton]; omega, by omega, g, by omega, by omega, ?_⟩
                rw [← hv]
                unfold contP
                simp only [h6, List.map_append, List.map_singleton]
              · have hv := HV.out
                rw [h2] at hv
                exact .inr ⟨h1, hv.symm⟩
end Go.Proofs.YtnnfhcbopchodaaDoor
namespace Go.Proofs.YtnnfhcbopchodaaDoor
open Go Go.RowKit
set_option linter.unusedVariables false
set_option linter.unusedSimpArgs false
section
variable {P : Program} {ops : Array Oper} {Q : Exit → Act → World → Prop} {md : Region.Mode} {T : Array Bool → World → Prop}
/-- What has come up waits for nothing that has not. -/
def Closed (md : Region.Mode) (ops : Array Oper) (d : Array Bool) : Prop := ∀ j o, ops[j]? = some o → d.getD j true = true → j < d.size → ∀ e ∈ o.after, Region.binds md e = true → d.getD e.on false = true
theorem closed_set {d : Array Bool} {k : Nat} (h : Closed md ops d) (hk : k ∈ Region.ready md ops d) : Closed md ops (d.setIfInBounds k true) := by
  intro j o ho hj hlt e he hb
  rw [Array.size_setIfInBounds] at hlt
  by_cases hjk : k = j
  · subst hjk
    obtain ⟨-, o', ho', hall⟩ := mem_ready.1 hk
    rw [ho] at ho'
    injection ho' with ho'
    subst ho'
    exact getD_set_true (hall e he hb)
  · rw [getD_set_ne true hjk] at hj
    exact getD_set_true (h j o ho hj hlt e he hb)
theorem closed_none (n : Nat) : Closed md ops (Array.replicate n false) := by
  intro j o ho hj hlt
  rw [Array.size_replicate] at hlt
  simp [hlt] at hj
/-- Every order from here on, where T of what has come up and of the world holds behind each operation. -/
def anyT (P : Program) (md : Region.Mode) (ops : Array Oper) (Q : Exit → Act → World → Prop) (T : Array Bool → World → Prop) : Nat → Array Bool → Act → World → Prop
  | 0, d, a, w => Closed md ops d → Region.ready md ops d = [] ∧ Q .normal a w
  | n + 1, d, a, w => Closed md ops d → (Region.ready md ops d = [] → Q .normal a w) ∧
      ∀ k ∈ Region.ready md ops d, wpOp P ops Q k (fun b v => T (d.setIfInBounds k true) v ∧ anyT P md ops Q T n (d.setIfInBounds k true) b v) a w
theorem anyT_any (n : Nat) : ∀ (d : Array Bool) (a : Act) (w : World), Closed md ops d → anyT P md ops Q T n d a w → wpAny P md ops Q n d a w := by
  induction n with
  | zero => exact fun _ _ _ hc h => h hc
  | succ n ih => exact fun d a w hc h => ⟨(h hc).1, fun k hk => wpOp_mono (fun b v hb => ih _ b v (closed_set hc hk) hb.2) ((h hc).2 k hk)⟩
/-- What T tells of a world while operation i is still to come. -/
def Till (md : Region.Mode) (ops : Array Oper) (T : Array Bool → World → Prop) (i : Nat) (w : World) : Prop := ∃ d, Closed md ops d ∧ i ∈ Region.ready md ops d ∧ T d w
theorem anyT_step {i : Nat} {oi : Oper} {v : Value} (hi : ops[i]? = some oi) (hsel : Region.noSelect ops = true) (hQ : ∀ c b u, Q (.panic c) (b.put oi.dst v) u → Q (.panic c) b u)
    (hT : ∀ d u, T (d.setIfInBounds i true) u ↔ T d u) (n : Nat) : ∀ (d : Array Bool) (a : Act) (w : World),
      (∀ j oj, ops[j]? = some oj → j ≠ i → d.getD j true = false → (∀ e ∈ oj.after, Region.binds md e = true → e.on ≠ i) → oi.apart ops oj = true) →
      i ∈ Region.ready md ops d → YieldsIf P ops (Till md ops T i) oi v a → T d w → anyT P md ops Q T n (d.setIfInBounds i true) (a.put oi.dst v) w → anyT P md ops Q T (n + 1) d a w := by
  have hs := Region.noSelect_spec hsel
  induction n with
  | zero =>
    intro d a w _ hr hy hw hn hc
    refine ⟨fun h0 => by simp [h0] at hr, fun k hk => ?_⟩
    by_cases hki : k = i
    · rw [hki]; exact hy.wpOp hi ⟨d, hc, hr, hw⟩ ⟨(hT d w).2 hw, hn⟩
    · have := ready_mono hk hki
      rw [(hn (closed_set hc hr)).1] at this
      cases this
  | succ n ih =>
    intro d a w hap hr hy hw hn hc
    refine ⟨fun h0 => by simp [h0] at hr, fun k hk => ?_⟩
    by_cases hki : k = i
    · rw [hki]; exact hy.wpOp hi ⟨d, hc, hr, hw⟩ ⟨(hT d w).2 hw, hn⟩
    · obtain ⟨hun, ok, hok, haft⟩ := mem_ready.1 hk
      have hw1 : ∀ e ∈ ok.after, Region.binds md e = true → e.on ≠ i := by
        intro e he hb hE
        have a1 := haft e he hb
        have a2 := (mem_ready.1 hr).1
        rw [hE] at a1
        by_cases hlt : i < d.size
        · simp [hlt] at a1 a2
          rw [a1] at a2
          cases a2
        · simp [Array.getElem?_eq_none (Nat.le_of_not_lt hlt)] at a1
      have hgo := wpOp_putIf hok (hap k ok hok hki hun hw1) (fun cs b => hs i oi cs b hi) (fun cs b => hs k ok cs b hok) hQ hy ((hn (closed_set hc hr)).2 k (ready_mono hk hki))
      refine wpOp_mono (fun b u hb => ?_) hgo
      obtain ⟨hb1, hb2, hb3⟩ := hb
      rw [Array.setIfInBounds_comm _ _ (Ne.symm hki)] at hb2 hb3
      have hu := (hT _ u).1 hb2
      refine ⟨hu, ih _ b u (fun m om hm hmi hmu hmo => hap m om hm hmi ?_ hmo) (ready_mono hr (Ne.symm hki)) hb1 hu hb3⟩
      by_cases hkm : k = m
      · rw [← hkm]; exact hun
      · rwa [getD_set_ne true hkm] at hmu
theorem anyT_take {i : Nat} {oi : Oper} {v : Value} {n : Nat} {d : Array Bool} {a : Act} {w : World} (hi : ops[i]? = some oi) (hsel : Region.noSelect ops = true) (hf : Region.free md ops d i = true)
    (hr : (Region.ready md ops d).contains i = true) (hQ : ∀ c b u, Q (.panic c) (b.put oi.dst v) u → Q (.panic c) b u) (hT : ∀ d u, T (d.setIfInBounds i true) u ↔ T d u) (hy : YieldsIf P ops (Till md ops T i) oi v a) (hw : T d w)
    (h : anyT P md ops Q T n (d.setIfInBounds i true) (a.put oi.dst v) w) : anyT P md ops Q T (n + 1) d a w :=
  anyT_step hi hsel hQ hT n d a w (Region.free_spec hi hf) (by simpa using hr) hy hw h
theorem anyT_done {d : Array Bool} {a : Act} {w : World} (hr : Region.ready md ops d = []) (h : Q .normal a w) (n : Nat) : anyT P md ops Q T n d a w := by
  cases n with
  | zero => exact fun _ => ⟨hr, h⟩
  | succ n => exact fun _ => ⟨fun _ => h, fun k hk => by rw [hr] at hk; cases hk⟩
/-- One operation alone may come up. -/
theorem anyT_one {k : Nat} {o : Oper} {n : Nat} {d : Array Bool} {a : Act} {w : World} (hr : Region.ready md ops d = [k]) (ho : ops[k]? = some o)
    (h : ∀ K : Act → World → Prop, Shut (∀ b v, T (d.setIfInBounds k true) v → (T (d.setIfInBounds k true) v → anyT P md ops Q T n (d.setIfInBounds k true) b v) → K b v) → if Region.wanted o (yielded ops a.tmps) = true then Oper.wp P o a w K Q else K (a.put o.dst undef) w) :
    anyT P md ops Q T (n + 1) d a w := by
  intro _
  refine ⟨fun h0 => (by rw [hr] at h0; cases h0), fun j hj => ?_⟩
  rw [hr, List.mem_singleton] at hj
  subst hj
  exact wpOp_step ho fun K hK => h K fun b v hv hb => hK b v ⟨hv, hb hv⟩
/-- Two may come up. -/
theorem anyT_two {k l : Nat} {o p : Oper} {n : Nat} {d : Array Bool} {a : Act} {w : World} (hr : Region.ready md ops d = [k, l]) (ho : ops[k]? = some o) (hp : ops[l]? = some p)
    (h : ∀ K : Act → World → Prop, Shut (∀ b v, T (d.setIfInBounds k true) v → (T (d.setIfInBounds k true) v → anyT P md ops Q T n (d.setIfInBounds k true) b v) → K b v) → if Region.wanted o (yielded ops a.tmps) = true then Oper.wp P o a w K Q else K (a.put o.dst undef) w)
    (h' : ∀ K : Act → World → Prop, Shut (∀ b v, T (d.setIfInBounds l true) v → (T (d.setIfInBounds l true) v → anyT P md ops Q T n (d.setIfInBounds l true) b v) → K b v) → if Region.wanted p (yielded ops a.tmps) = true then Oper.wp P p a w K Q else K (a.put p.dst undef) w) :
    anyT P md ops Q T (n + 1) d a w := by
  intro _
  refine ⟨fun h0 => (by rw [hr] at h0; cases h0), fun j hj => ?_⟩
  rw [hr] at hj
  rcases List.mem_cons.1 hj with hj | hj
  · subst hj
    exact wpOp_step ho fun K hK => h K fun b v hv hb => hK b v ⟨hv, hb hv⟩
  · rw [List.mem_singleton] at hj
    subst hj
    exact wpOp_step hp fun K hK => h' K fun b v hv hb => hK b v ⟨hv, hb hv⟩
theorem wp_region_T (T : Array Bool → World → Prop) {id : Nat} {a : Act} {w : World} (hm : P.follows .mixedOrders = true)
    (h : anyT P .any ops Q T ops.size (Array.replicate ops.size false) a w.drew) : (Code.region id ops true).wp P Q a w := wp_region_any hm (anyT_any _ _ _ _ (closed_none _) h)
end
theorem closed_waits {ops : Array Oper} {md : Region.Mode} {d : Array Bool} (hc : Closed md ops d) {j i : Nat} (hw : Region.waitsFor md ops j i = true) (hj : d.getD j false = true) : d.getD i false = true := by
  obtain ⟨o, ho, e, he, hb, rfl⟩ := Region.waitsFor_spec hw
  have hlt : j < d.size := by
    rcases Nat.lt_or_ge j d.size with h | h
    · exact h
    · simp [Array.getElem?_eq_none h] at hj
  exact hc j o ho (by simp [hlt] at hj ⊢; exact hj) hlt e he hb
/-- An operation that is still to come: what waits for it has not come up. -/
theorem till_not {ops : Array Oper} {md : Region.Mode} {d : Array Bool} (hc : Closed md ops d) {i k j : Nat} (h1 : Region.waitsFor md ops j k = true) (h2 : Region.waitsFor md ops k i = true) (hi : i ∈ Region.ready md ops d) : d.getD j false = false := by
  cases hj : d.getD j false with
  | false => rfl
  | true =>
    have h3 := closed_waits hc h2 (closed_waits hc h1 hj)
    have h4 := getD_both (mem_ready.1 hi).1
    rw [h3] at h4
    cases h4
/-- One cell holds what it holds till operation j comes up. -/
def TOne (j : Nat) (p : Addr) (x : Value) (d : Array Bool) (w : World) : Prop := d.getD j false = false → w.cell? p = some x
theorem tone_ins {j : Nat} {p : Addr} {x : Value} (i : Nat) (h : i ≠ j) : ∀ d u, TOne j p x (d.setIfInBounds i true) u ↔ TOne j p x d u := fun d u => by
  unfold TOne
  rw [getD_set_ne false h]
/-- A kid more: whatever blocks are barred. -/
theorem kids_more {B : Nat → Prop} {w2 X w' : World} {v v' : Value} {zs : List ZNd} {z : ZNd} (hs : ∀ z ∈ zs, NdOk (fun b => B b ∨ v.ownBlock = some b) w2 z.1 z.2) (hn : NdOk (fun b => B b ∨ v.ownBlock = some b) w2 z.1 z.2)
    (hX : Below w2.heap.size w2 X) (hg : X.grownBy w' v.ownBlock) (hat : v'.ownBlock = v.ownBlock ∨ v'.ownBlock = some X.heap.size) :
    ∀ y ∈ zs ++ [z], NdOk (fun b => B b ∨ v'.ownBlock = some b) w' y.1 y.2 := by
  have kX : Kp (fun b => v.ownBlock = some b) w2 w' := (Kp.of_below hX).trans (Kp.of_grown hg (fun b hb => hb))
  have hXs := hX.size
  have fin : ∀ y : ZNd, NdOk (fun b => B b ∨ v.ownBlock = some b) w2 y.1 y.2 → NdOk (fun b => B b ∨ v'.ownBlock = some b) w' y.1 y.2 := by
    intro y hy
    refine (hy.new.kp_of kX (fun b hb => .inl (.inr hb))).mono (fun b hb => ?_)
    rcases hb with hb | hb
    · exact .inl (.inl hb)
    · rcases hat with e | e
      · exact .inl (.inr (by rw [← e]; exact hb))
      · rw [e] at hb
        injection hb with hb
        exact .inr (by omega)
  intro y hy
  rcases List.mem_append.1 hy with hy | hy
  · exact fin y (hs y hy)
  · rw [List.mem_singleton.1 hy]; exact fin z hn
theorem tone_up {j : Nat} {p : Addr} {x : Value} {d : Array Bool} {w : World} (h : d.getD j false = true) : TOne j p x d w := fun h2 => by rw [h] at h2; cases h2
theorem step_wanted {P : Program} {ops : Array Oper} {o : Oper} {a : Act} {w : World} {K : Act → World → Prop} {Q : Exit → Act → World → Prop} {E : Prop} (hg : o.guard = none) (h : Oper.wp P o a w K Q) :
    if Region.wanted o (yielded ops a.tmps) = true then Oper.wp P o a w K Q else E := by
  have hw : Region.wanted o (yielded ops a.tmps) = true := by simp [Region.wanted, hg]
  rw [if_pos hw]
  exact h
theorem Tryd.wpSliceNd {z : ZNd} {o : Oper} {a : Act} {w : World} {K : Act → World → Prop} {Q : Exit → Act → World → Prop} (x : Operand) (ho : o.op = .buildSlice 30 1 #[(0, x)]) (hx : a.eval x = .agg (nenc z).toArray)
    (h : K (a.put o.dst (.slice (some ⟨w.heap.size, 0, none⟩) 1 1)) (w.alloc (.cells (nenc z).toArray NdT))) : Oper.wp Tryd.prog o a w K Q := by
  have e : ((#[(0, x)] : Array (Nat × Operand)).map fun (i, x) => (i, a.eval x)).toList = [(0, .agg (nenc z).toArray)] := by
    simp only [List.map_toArray, List.map_cons, List.map_nil, hx]
  have hf := Tryd.buildNS z
  rw [← e] at hf
  unfold Program.builtSlice at hf
  cases hie : Tryd.prog.info? NdT with
  | none => simp [hie] at hf
  | some ie =>
    simp only [hie] at hf
    cases hz : ie.zero with
    | none => simp [hz] at hf
    | some z0 =>
      simp only [hz] at hf
      by_cases hc : 1 * ie.size > 2 ^ 24 ∨ 1 * ie.size = 0
      · rw [if_pos hc] at hf; cases hf
      · rw [if_neg hc] at hf
        exact wp_buildSlice 30 NdT 1 _ ho _ ie z0 Tryd.underlying30 hie hz (fun h' => hc (Or.inl h')) (fun h' => hc (Or.inr h')) hf h
end Go.Proofs.YtnnfhcbopchodaaDoor
