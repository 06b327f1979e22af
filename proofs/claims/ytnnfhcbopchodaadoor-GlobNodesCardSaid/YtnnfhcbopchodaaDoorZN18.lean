/- Chapter 4's reader: alternatives. (Printed by gen_rq8.py.) Chapter 4's patterns: Compile. (Printed by gen_rq9.py.) (Several texts in one file, by merge.py.) -/
import Derived.Test.YtnnfhcbopchodaaDoorZN17
namespace Go.Proofs.YtnnfhcbopchodaaDoor
open Go Go.RowKit
set_option linter.unusedVariables false
set_option linter.unusedSimpArgs false
set_option maxRecDepth 100000
/-- Where alternatives stand. -/
structure AS (s : ByteArray) (rb d n c : Nat) (w : World) (zs : List ZNd) (v : Value) (ai : Nat) (er bd : Int) (wx : World) : Prop where
  r : R4 wx rb s ai d er bd
  k : Kp (· = rb) w wx
  p : NdB wx c (v, .node 2 (zs.map (·.2)) noS)
  q : NdB wx n (zN 0)
  z : c < wx.heap.size
  o : wx.ownsRow (n + 1) NdT 258 v zs.length (zs.flatMap nenc)
  oc : v.ownBlock ≠ some c
  h : ∀ z ∈ zs, NdOk (fun b => b ≤ n ∨ b = c ∨ v.ownBlock = some b) wx z.1 z.2
theorem AS.drew {s : ByteArray} {rb d n c : Nat} {w wx : World} {zs : List ZNd} {v : Value} {ai : Nat} {er bd : Int} (h : AS s rb d n c w zs v ai er bd wx) (m : Nat) : AS s rb d n c w zs v ai er bd (wx.drewN m) :=
  ⟨h.r, h.k.drewN m, h.p, h.q, h.z, h.o, h.oc, fun z hz => (h.h z hz).drew m⟩
theorem AS.step {s : ByteArray} {rb d n c : Nat} {w wx wy : World} {zs : List ZNd} {v : Value} {C : Nat → Prop} {ai a2 : Nat} {er bd er2 bd2 : Int} (hn : w.heap.size = n) (hrb : rb < n) (hnc : n < c) (h : AS s rb d n c w zs v ai er bd wx) (k : Kp C wx wy) (hc : ∀ b, C b → b = rb ∨ wx.heap.size ≤ b) (hr : R4 wy rb s a2 d er2 bd2) :
    AS s rb d n c w zs v a2 er2 bd2 wy := by
  have hz := h.z
  refine ⟨hr, h.k.trans_new k (fun b hb => ?_), h.p.kp k (fun hb => ?_), h.q.kp k (fun hb => ?_), Nat.lt_of_lt_of_le hz k.size, own_kp h.o k (fun b hb hl hC => ?_), h.oc, fun z hz2 => (h.h z hz2).keep k (fun b hb => ?_)⟩
  · rcases hc b hb with h1 | h1
    · exact .inl h1
    · exact .inr (by omega)
  · rcases hc _ hb with h1 | h1 <;> omega
  · rcases hc _ hb with h1 | h1 <;> omega
  · rcases hc b hC with h1 | h1
    · omega
    · have := (own_bd h.o hb).2; omega
  · rcases hc b hb with h1 | h1
    · exact .inl (.inl (by omega))
    · exact .inr h1
/-- Where alternatives stand, with what is to come. -/
def AJ (s : ByteArray) (rb d p n c f : Nat) (w : World) (R : Option (RT × List UInt8)) (gk : Nat) (wr : World) : Prop :=
  ∃ (zs : List ZNd) (v : Value) (ai : Nat) (er bd : Int), AS s rb d n c w zs v ai er bd wr ∧ 1 ≤ gk ∧ ai + d ≤ s.size + 41 ∧
    ((er = 0 ∧ ai ≤ s.size ∧ p ≤ ai ∧ zs.length ≤ ai + 1 ∧ s.size + 2 ≤ ai + gk ∧ ∃ f2, 3 * (s.size - ai) + 1 ≤ f2 ∧ f2 ≤ f ∧ moreL f2 d (zs.map (·.2)) (s.data.toList.drop ai) = R) ∨ (er ≠ 0 ∧ R = none))
set_option maxHeartbeats 8000000 in
theorem r4alts_any (f0 : Nat) (HPIECE : ∀ g, g < f0 → PieceC g) : AltC f0 := by
  intro rb s p d bad w h hs hps hd hfu
  obtain ⟨f, rfl⟩ : ∃ g, f0 = g + 1 := ⟨f0 - 1, by omega⟩
  obtain ⟨R, hR⟩ : ∃ R, altsL (f + 1) d (s.data.toList.drop p) = R := ⟨_, rfl⟩
  rw [hR]
  have HR := Lib.hid h
  have HL := Lib.hid (heap_lt h)
  have HPC := Lib.hid HPIECE
  obtain ⟨n, hn⟩ : ∃ n, w.heap.size = n := ⟨_, rfl⟩
  have HN := Lib.hid hn
  have hne : rb ≠ n ∧ rb < n := by have := HL.out; omega
  obtain ⟨P1, hP1⟩ : ∃ P1, P1 = piecesL f d [] (s.data.toList.drop p) := ⟨_, rfl⟩
  have HV := Lib.hid (show (P1.bind fun q => moreL f d [q.1] q.2) = R by
    rw [← hR, altsL, ← hP1]
    cases P1 <;> rfl)
  have hpc := HPC.out f (by omega) rb s p d bad
  rw [← hP1] at hpc
  have HP1 := Lib.hid hpc
  obtain ⟨i0, hi, hz0, hz1, hz2⟩ := info_parts Tryd.infoNds
  have HI := Lib.hid hi
  have HI0 := Lib.hid hz0
  have HI1 := Lib.hid hz1
  have HI2 := Lib.hid hz2
  have HCS := Lib.hid (show (Value.agg (nenc (zN 0)).toArray).cells.size = 258 from nenc_size _)
  clear h hn hR HPIECE hP1 hpc hi hz0 hz1 hz2
  go_enter Tryd.func28, Tryd.ntmps28
  go_wp2_with (first
    | (refine Tryd.stepAllocNd (n := n) rfl rfl HN.out ?_
       intro W1 p1 z1 k1
       have HA1 := Lib.hid p1
       have HZ1 := Lib.hid z1
       have HR1 := Lib.hid (HR.out.kp k1 (fun h => h))
       have HK1 := Lib.hid k1
       clear p1 z1 k1))
  refine (HP1.out W1 HR1.out hs hps hd (by omega)).mono ?_
  rintro e w2 ⟨v1, t1, a1, er1, bd1, rfl, hr2, hk2, had1, hn2, hc2⟩
  have HR2 := Lib.hid hr2
  have HK2 := Lib.hid ((HK1.out.mono (C := (· = rb)) (fun _ _ h => h.elim)).trans hk2)
  have HA2 := Lib.hid (HA1.out.kp hk2 (by omega))
  have HN2 := Lib.hid (show NdOk (· ≤ n) w2 v1 t1 from hn2.mono (fun b hb => by have := HZ1.out; omega))
  have HC2 := Lib.hid hc2
  obtain ⟨M, hM⟩ : ∃ M, w2.heap.size = M := ⟨_, rfl⟩
  have HM := Lib.hid hM
  have hnM : n + 1 ≤ M := by have := HZ1.out; have := hk2.size; omega
  clear hr2 hk2 hn2 hc2 hM HR1 HK1 HA1 HR HP1
  go_wp2_with (first
    | (refine Tryd.stepSliceNd (z := (v1, t1)) (.tmp 5) rfl rfl rfl ?_)
    | (refine Tryd.stepBuildNV 2 (.tmp 6) (some ⟨w2.heap.size, 0, none⟩) 1 1 [t1] rfl rfl rfl ?_)
    | (refine Tryd.stepAllocNd (n := M + 1) rfl rfl (by simp; exact HM.out) ?_
       intro W3 p3 z3 k3
       have HA3 := Lib.hid p3
       have HZ3 := Lib.hid z3
       have HK3 := Lib.hid k3
       clear p3 z3 k3)
    | (refine Tryd.stepStoreNd (z := zN 0) (z' := (.slice (some ⟨w2.heap.size, 0, none⟩) 1 1, .node 2 [t1] noS)) (.tmp 3) (.tmp 7) (M + 1) rfl rfl rfl rfl HA3.out rfl ?_
       intro W4 p4 z4 k4
       have HAS := Lib.hid (show AS s rb d n (M + 1) w [(v1, t1)] (.slice (some ⟨w2.heap.size, 0, none⟩) 1 1) a1 er1 bd1 W4 from by
         have ka : Kp (fun _ => False) w2 (w2.alloc (.cells (nenc (v1, t1)).toArray NdT)) := (Kp.refl _ _).alloc _
         have kb : Kp (· = M + 1) w2 W4 := ((ka.trans HK3.out).mono (fun _ _ h => h.elim)).trans k4
         have hb := HM.out
         have ho : (w2.alloc (.cells (nenc (v1, t1)).toArray NdT)).ownsRow (n + 1) NdT 258 (.slice (some ⟨w2.heap.size, 0, none⟩) 1 1) 1 (nenc (v1, t1)) := World.ownsRow_lit w2 _ 1 (by omega) (by decide) (by rw [nenc_size])
         refine ⟨HR2.out.kp kb (by omega), HK2.out.trans_new kb (fun b hb => .inr (by have := HN.out; omega)), p4, HA2.out.kp kb (by omega), by rw [z4, HZ3.out]; omega, ?_, by simp [Value.ownBlock]; omega, fun z hz => ?_⟩
         · rw [List.flatMap_singleton]
           exact own_kp (own_kp ho HK3.out (fun _ _ _ h => h)) k4 (fun b hb _ hc => by simp [Value.ownBlock] at hb; omega)
         · rw [List.mem_singleton.1 hz]
           exact ((HN2.out.new).kp_of kb (fun b hb => .inr (by omega))).mono (fun b hb => by
             rcases hb with h1 | h1 | h1
             · exact .inl h1
             · exact .inr (by omega)
             · simp [Value.ownBlock] at h1; exact .inr (by omega)))
       clear p4 z4 k4))
  go_wp2_with fail
  first | go_values | go_simp
  obtain ⟨c, hc⟩ : ∃ c, c = M + 1 := ⟨_, rfl⟩
  have hnc : n < c := by omega
  rw [← hc] at HAS ⊢
  clear hc HR2 HK2 HA2 HN2 HA3 HZ3 HK3
  go_loopg [] (s.size + 3) (fun gk wr => AJ s rb d p n c f w R gk wr)
  case atStart => 
    refine ⟨[(v1, t1)], _, a1, er1, bd1, HAS.out, by omega, had1, ?_⟩
    have hv := HV.out
    rcases HC2.out with ⟨h1, h2, h3, h4⟩ | ⟨h1, h2⟩
    · rw [h2] at hv
      exact .inl ⟨h1, h3, h4, by simp, by omega, f, by omega, Nat.le_refl _, hv⟩
    · rw [h2] at hv
      exact .inr ⟨h1, hv.symm⟩
  case round =>
    obtain ⟨zs, v, ai, er, bd, has, hgk1, had, hcase⟩ := hrel
    have HAW := Lib.hid has
    have HC := Lib.hid hcase
    clear has hcase HAS HC2 HV
    obtain ⟨gob, hgob⟩ : ∃ gob, gob = decide (er = 0 ∧ ai < s.size ∧ bAt s ai = 124) := ⟨_, rfl⟩
    have HGOB := Lib.hid hgob
    have c0 := HAW.out.r.c0
    have c1 := HAW.out.r.c1
    go_upto_region 2 with fail
    go_cut [21] (fun s21 wx => s21 = .bool gob ∧ ∃ m, wx = wr.drewN m)
    case first =>
      by_cases hgo : er = 0 ∧ ai < s.size
      · obtain ⟨rfl, hlt⟩ := hgo
        have HM := Lib.hid (show ∀ k, Calls Tryd.prog 49 #[.pointer (some ⟨rb, 0, none⟩)] (wr.drewN k) fun e w' => e = .returned (.bool true) ∧ ∃ n, w' = (wr.drewN k).drewN n from fun k => by
          have := r4more_any rb s ai d 0 bd (wr.drewN k) (HAW.out.r.drewN k) hs (by omega)
          rw [decide_eq_true hlt] at this
          exact this)
        have hg := bAt_get hlt
        obtain ⟨c', hc⟩ : ∃ c', bAt s ai = c' := ⟨_, rfl⟩
        rw [hc] at hg hgob
        obtain ⟨b1, hb1⟩ : ∃ b1, (c' == 124) = b1 := ⟨_, rfl⟩
        have e1 : ((c'.toNat : Int) == 124) = b1 := by rw [gu8_lit c' 124 124 rfl, hb1]
        have hgb : gob = b1 := by
          rw [hgob, ← hb1, Bool.eq_iff_iff, decide_eq_true_iff]
          simp [hlt]
        subst hgb
        clear hgob hb1 hc
        cases gob
        all_goals
          go_quiet ((go_at_call 49; first | refine qd (HM.out _) | refine qd0 (HM.out _)))
          go_wp2_with fail
          go_meet
          exact ⟨rfl, _, rfl⟩
      · have HM := Lib.hid (show ∀ k, Calls Tryd.prog 49 #[.pointer (some ⟨rb, 0, none⟩)] (wr.drewN k) fun e w' => e = .returned (.bool false) ∧ ∃ n, w' = (wr.drewN k).drewN n from fun k => by
          have := r4more_any rb s ai d er bd (wr.drewN k) (HAW.out.r.drewN k) hs (by omega)
          rw [show (er == 0 && decide (ai < s.size)) = false by
            by_cases h0 : er = 0
            · rw [decide_eq_false (fun h => hgo ⟨h0, h⟩), Bool.and_false]
            · rw [beq_eq_false_iff_ne.2 h0, Bool.false_and]] at this
          exact this)
        have hb : gob = false := by rw [hgob, decide_eq_false_iff_not]; exact fun h => hgo ⟨h.1, h.2.1⟩
        subst hb
        clear hgob hgo
        go_quiet ((go_at_call 49; first | refine qd (HM.out _) | refine qd0 (HM.out _)))
        go_wp2_with fail
        go_meet
        exact ⟨rfl, _, rfl⟩
    case rest =>
      obtain ⟨rfl, m7, rfl⟩ := hcut
      have HS7 := Lib.hid (HAW.out.drew m7)
      generalize wr.drewN m7 = w7 at HS7 ⊢
      clear c0 c1 HAW hgob
      cases gob with
      | false =>
        have HNK := Lib.hid (NdOk.own (N := n + 1) HS7.out.o (fun z hz => (HS7.out.h z hz).mono (fun b hb => by
          rcases hb with h1 | h1
          · exact .inl (by omega)
          · exact .inr (.inr h1))) 2 noS)
        have hx := of_decide_eq_false HGOB.out.symm
        have HE := Lib.hid (show (er = 0 ∧ R = some (.node 2 (zs.map (·.2)) noS, s.data.toList.drop ai) ∧ ai ≤ s.size ∧ p ≤ ai) ∨ (er ≠ 0 ∧ R = none) by
          rcases HC.out with ⟨h1, h2, h3, h4, h5, f2, h6, h7, h8⟩ | h
          · obtain ⟨g, rfl⟩ : ∃ g, f2 = g + 1 := ⟨f2 - 1, by omega⟩
            refine .inl ⟨h1, ?_, h2, h3⟩
            rw [← h8, moreL, if_neg]
            by_cases hlt : ai < s.size
            · rw [drop_bAt hlt]
              intro e
              injection e with e
              exact hx ⟨h1, hlt, e⟩
            · rw [drop_over (by omega)]
              exact fun e => by cases e
          · exact .inr h)
        clear hx HGOB HC
        go_wp2_with (first
          | (refine Tryd.stepLoadNd (z := (v, .node 2 (zs.map (·.2)) noS)) (.tmp 3) c rfl rfl rfl HS7.out.p ?_)
          | (refine Tryd.stepStoreNd (z := zN 0) (z' := (v, .node 2 (zs.map (·.2)) noS)) (.tmp 2) (.tmp 36) n rfl rfl rfl rfl HS7.out.q HNK.out.one ?_
             intro W9 p9 z9 k9))
        refine bodyPost_ret (Tryd.resultNd rfl rfl p9) rfl ⟨v, .node 2 (zs.map (·.2)) noS, ai, er, bd, rfl, HS7.out.r.kp k9 (by have := hne; omega), HS7.out.k.trans_new k9 (fun b hb => .inr (by have := HN.out; omega)), had, ?_, HE.out⟩
        exact (HNK.out.kp_of k9 (fun b hb => by omega)).mono (fun b hb => by have := HN.out; omega)
      | true =>
        have hx := of_decide_eq_true HGOB.out.symm
        obtain ⟨rfl, hlt, h124⟩ := hx
        obtain ⟨av, cv, rfl⟩ := own_slice HS7.out.o
        have hbody : ∃ g, ai ≤ s.size ∧ p ≤ ai ∧ zs.length ≤ ai + 1 ∧ s.size + 2 ≤ ai + gk ∧ 3 * (s.size - ai) ≤ g ∧ g + 1 ≤ f ∧ (piecesL g d [] (s.data.toList.drop (ai + 1))).bind (fun q => moreL g d (zs.map (·.2) ++ [q.1]) q.2) = R := by
          rcases HC.out with ⟨h1, h2, h3, h4, h5, f2, h6, h7, h8⟩ | h
          · obtain ⟨g, rfl⟩ : ∃ g, f2 = g + 1 := ⟨f2 - 1, by omega⟩
            refine ⟨g, h2, h3, h4, h5, by omega, h7, ?_⟩
            rw [moreL, if_pos (by rw [drop_bAt hlt, h124]; rfl), List.drop_drop] at h8
            rw [← h8]
            cases piecesL g d [] (s.data.toList.drop (ai + 1)) <;> rfl
          · exact absurd rfl h.1
        obtain ⟨g, has, hpa, hzl, hgk, hg1, hg2, hv⟩ := hbody
        obtain ⟨P2, hP2⟩ : ∃ P2, P2 = piecesL g d [] (s.data.toList.drop (ai + 1)) := ⟨_, rfl⟩
        rw [← hP2] at hv
        have HV := Lib.hid hv
        have hpc := HPC.out g (by omega) rb s (ai + 1) d bd
        rw [← hP2] at hpc
        have HP2 := Lib.hid hpc
        clear hv hP2 hpc HGOB HC h124
        have c1 := HS7.out.r.c1
        have f1 := HS7.out.r.fz 1
        go_upto_region 4 with fail
        have HS8 := Lib.hid (show AS s rb d n c w zs (Value.slice av zs.length cv) (ai + 1) 0 bd (w7.setCell ⟨rb, 1, none⟩ (.int .i64 ((ai : Int) + 1))) from HS7.out.step HN.out hne.2 hnc ((Kp.refl (· = rb) w7).setCell (p := ⟨rb, 1, none⟩) (.inl rfl) _) (fun b hb => .inl hb) (HS7.out.r.put1 (ai + 1)))
        generalize w7.setCell ⟨rb, 1, none⟩ (.int .i64 ((ai : Int) + 1)) = w8 at HS8 ⊢
        clear HS7 c1 f1
        have mixed : Tryd.prog.follows .mixedOrders = true := by kernel_rfl
        have kc : w8.drew.cell? ⟨c, 1, none⟩ = some (Value.slice av zs.length cv) := HS8.out.p.c1
        refine wp_region_T (TOne 7 ⟨c, 1, none⟩ (Value.slice av zs.length cv)) mixed ?_
        refine anyT_take (i := 0) (oi := ?oi0) (v := ?vv0) ?hh0 (by kernel_rfl) (by kernel_rfl) (by kernel_rfl) ?qq0 (tone_ins 0 (by decide)) (Or.inl ⟨?wd0, ?yy0⟩) (fun _ => kc) ?rest0
        case hh0 => simp only [List.getElem?_toArray, List.getElem?_cons_succ, List.getElem?_cons_zero]; try rfl
        case qq0 => exact fun _ _ _ h => h
        case wd0 => rfl
        case yy0 => (intro w hSw; go_simp; try with_reducible rfl)
        try simp only [Act.put, List.setIfInBounds_toArray, List.set_cons_zero, List.set_cons_succ]
        refine anyT_take (i := 1) (oi := ?oi1) (v := ?vv1) ?hh1 (by kernel_rfl) (by kernel_rfl) (by kernel_rfl) ?qq1 (tone_ins 1 (by decide)) (Or.inl ⟨?wd1, ?yy1⟩) (fun _ => kc) ?rest1
        case hh1 => simp only [List.getElem?_toArray, List.getElem?_cons_succ, List.getElem?_cons_zero]; try rfl
        case qq1 => exact fun _ _ _ h => h
        case wd1 => rfl
        case yy1 => (intro w hSw; obtain ⟨d9, hcd, hrd, hTd⟩ := hSw; have hcell := hTd (till_not hcd (k := 5) (by kernel_rfl) (by kernel_rfl) hrd); clear hTd hcd hrd; go_simp; try with_reducible rfl)
        try simp only [Act.put, List.setIfInBounds_toArray, List.set_cons_zero, List.set_cons_succ]
        refine anyT_take (i := 2) (oi := ?oi2) (v := ?vv2) ?hh2 (by kernel_rfl) (by kernel_rfl) (by kernel_rfl) ?qq2 (tone_ins 2 (by decide)) (Or.inl ⟨?wd2, ?yy2⟩) (fun _ => kc) ?rest2
        case hh2 => simp only [List.getElem?_toArray, List.getElem?_cons_succ, List.getElem?_cons_zero]; try rfl
        case qq2 => exact fun _ _ _ h => h
        case wd2 => rfl
        case yy2 => (intro w hSw; go_simp; try with_reducible rfl)
        try simp only [Act.put, List.setIfInBounds_toArray, List.set_cons_zero, List.set_cons_succ]
        refine anyT_one (o := ?No3) (by kernel_rfl : _ = [3]) ?Nh3 ?Nm3
        case Nh3 => simp only [List.getElem?_toArray, List.getElem?_cons_succ, List.getElem?_cons_zero]; try rfl
        case Nm3 =>
          intro K hK
          go_simp
          go_at_call 48
          refine (HP2.out w8.drew HS8.out.r hs (by omega) hd (by omega)).mono ?_
          rintro e w10 ⟨v2, t2, a2, er2, bd2, rfl, hr10, hk10, had2, hn10, hc10⟩
          have HS10 := Lib.hid ((HS8.out.drew 1).step HN.out hne.2 hnc (C := (· = rb)) hk10 (fun b hb => .inl hb) hr10)
          have HN10 := Lib.hid (show NdOk (fun b => b ≤ n ∨ b = c ∨ (Value.slice av zs.length cv).ownBlock = some b) w10 v2 t2 from hn10.mono (fun b hb => by
            have h1 := HS8.out.z
            rcases hb with h2 | h2 | h2
            · show b < w8.heap.size; omega
            · show b < w8.heap.size; omega
            · exact (own_bd HS8.out.o h2).2))
          have HC10 := Lib.hid hc10
          have kc10 : w10.cell? ⟨c, 1, none⟩ = some (Value.slice av zs.length cv) := HS10.out.p.c1
          clear hr10 hk10 hn10 hc10 kc
          go_wp2_with fail
          refine hK.out _ _ (fun _ => kc10) (fun hHeld => ?_)
          clear hHeld hK K
          try simp only [Act.put, List.setIfInBounds_toArray, List.set_cons_zero, List.set_cons_succ]
          refine anyT_one (o := ?No4) (by kernel_rfl : _ = [4]) ?Nh4 ?Nm4
          case Nh4 => simp only [List.getElem?_toArray, List.getElem?_cons_succ, List.getElem?_cons_zero]; try rfl
          case Nm4 =>
            intro K hK
            refine step_wanted rfl (Tryd.wpSliceNd (z := (v2, t2)) (.tmp 32) rfl rfl ?_)
            refine hK.out _ _ (fun _ => HS10.out.p.kp (Kp.of_below (B := fun _ => False) ((Below.refl _ _).alloc (Nat.le_refl _) _)) (fun h => h) |>.c1) (fun hHeld => ?_)
            clear hHeld hK K
            try simp only [Act.put, List.setIfInBounds_toArray, List.set_cons_zero, List.set_cons_succ]
            refine anyT_one (o := ?No5) (by kernel_rfl : _ = [5]) ?Nh5 ?Nm5
            case Nh5 => simp only [List.getElem?_toArray, List.getElem?_cons_succ, List.getElem?_cons_zero]; try rfl
            case Nm5 =>
              intro K hK
              refine step_append_at rfl (.tmp 30) (.tmp 33) _ rfl (n + 1) NdT i0 _ 258 288 Tryd.underlying30 HI.out HI0.out HI1.out HI2.out HCS.out (by decide) (Value.slice av zs.length cv) zs.length (zs.flatMap nenc) rfl (World.ownsRow.alloc HS10.out.o _) ⟨w10.heap.size, 0, none⟩ 1 1 (nenc (v2, t2)) rfl (by rw [nenc_len]) ?_ (nenc_one HN10.out.one) (by unfold maxLen; omega) (by omega) (by have := HS10.out.z; simp; omega) ?_
              · intro j u hj
                rw [Addr.add_lit, Nat.zero_add, cell_of_row _ _ _ _ _ _ (heap_new w10 _), List.getElem?_toArray]
                exact hj
              intro v' w3 hown hgrow hat
              have hX : Below w10.heap.size w10 (w10.alloc (.cells (nenc (v2, t2)).toArray NdT)) := (Below.refl _ _).alloc (Nat.le_refl _) _
              have hki : ∀ y ∈ zs ++ [(v2, t2)], NdOk (fun b => (b ≤ n ∨ b = c) ∨ v'.ownBlock = some b) w3 y.1 y.2 := kids_more (B := fun b => b ≤ n ∨ b = c) (w2 := w10) (X := w10.alloc (.cells (nenc (v2, t2)).toArray NdT)) (w' := w3) (v := (Value.slice av zs.length cv)) (v' := v') (zs := zs) (z := (v2, t2)) (fun z hz => (HS10.out.h z hz).mono (fun b hb => by
                rcases hb with (h1 | h1) | h1
                · exact .inl h1
                · exact .inr (.inl h1)
                · exact .inr (.inr h1))) (HN10.out.mono (fun b hb => by
                rcases hb with (h1 | h1) | h1
                · exact .inl h1
                · exact .inr (.inl h1)
                · exact .inr (.inr h1))) hX hgrow hat
              have HKI := Lib.hid hki
              have HOW := Lib.hid hown
              have HKK := Lib.hid (show Kp (fun b => (Value.slice av zs.length cv).ownBlock = some b) w10 w3 from (Kp.of_below hX).trans (Kp.of_grown hgrow (fun b hb => hb)))
              have HAT := Lib.hid hat
              have HP4 := Lib.hid (show NdB w3 c ((Value.slice av zs.length cv), .node 2 (zs.map (·.2)) noS) from HS10.out.p.kp HKK.out HS10.out.oc)
              have hcx : c ≠ w10.heap.size := by have := HS10.out.z; omega
              have f4 := HP4.out.fz 1
              have p4c : w3.cell? ⟨c, 1, none⟩ = some (Value.slice av zs.length cv) := HP4.out.c1
              obtain ⟨g', cap', hv'⟩ := own_some hown (Nat.succ_pos _)
              have HVC := Lib.hid (show v'.ownBlock ≠ some c from fun e => by
                rcases hat with h1 | h1
                · rw [h1] at e; exact HS10.out.oc e
                · rw [h1] at e; injection e with e; simp at e; have := HS10.out.z; omega)
              subst hv'
              clear hki hown hgrow hat hX
              refine hK.out _ _ (fun _ => p4c) (fun hHeld => ?_)
              clear hHeld hK K
              try simp only [Act.put, List.setIfInBounds_toArray, List.set_cons_zero, List.set_cons_succ]
              refine anyT_take (i := 6) (oi := ?oi6) (v := ?vv6) ?hh6 (by kernel_rfl) (by kernel_rfl) (by kernel_rfl) ?qq6 (tone_ins 6 (by decide)) (Or.inl ⟨?wd6, ?yy6⟩) (fun _ => p4c) ?rest6
              case hh6 => simp only [List.getElem?_toArray, List.getElem?_cons_succ, List.getElem?_cons_zero]; try rfl
              case qq6 => exact fun _ _ _ h => h
              case wd6 => rfl
              case yy6 => (intro w hSw; go_simp; try with_reducible rfl)
              try simp only [Act.put, List.setIfInBounds_toArray, List.set_cons_zero, List.set_cons_succ]
              refine anyT_one (o := ?No7) (by kernel_rfl : _ = [7]) ?Nh7 ?Nm7
              case Nh7 => simp only [List.getElem?_toArray, List.getElem?_cons_succ, List.getElem?_cons_zero]; try rfl
              case Nm7 =>
                intro K hK
                go_simp
                refine hK.out _ _ (tone_up (by kernel_rfl)) (fun hHeld => ?_)
                clear hHeld hK K f4 p4c
                try simp only [Act.put, List.setIfInBounds_toArray, List.set_cons_zero, List.set_cons_succ]
                refine anyT_done (by kernel_rfl) ?_ _
                have HKS := Lib.hid (show ∀ u, Kp (· = c) w3 (w3.setCell ⟨c, 1, none⟩ u) from fun u => (Kp.refl (· = c) w3).setCell (p := ⟨c, 1, none⟩) (.inl rfl) u)
                go_wp2_with fail
                go_roundg (gk - 1)
                case measure => omega
                case rel =>
                  have hob : ∀ b, (Value.slice av zs.length cv).ownBlock = some b → n + 1 ≤ b := fun b hb => own_base HS10.out.o hb
                  refine ⟨zs ++ [(v2, t2)], .slice (some ⟨g', 0, none⟩) (zs.length + 1) cap', a2, er2, bd2, ?_, by omega, had2, ?_⟩
                  · refine ⟨?_, ?_, ?_, ?_, ?_, ?_, HVC.out, ?_⟩
                    · exact (HS10.out.r.kp HKK.out (fun h => by have := hob _ h; omega)).kp (HKS.out _) (by omega)
                    · exact (HS10.out.k.trans_new HKK.out (fun b hb => .inr (by have := hob _ hb; have := HN.out; omega))).trans_new (HKS.out _) (fun b hb => .inr (by have := HN.out; omega))
                    · exact HP4.out.putKids
                    · exact (HS10.out.q.kp HKK.out (fun h => by have := hob _ h; omega)).kp (HKS.out _) (by omega)
                    · exact Nat.lt_of_lt_of_le HS10.out.z (Nat.le_trans HKK.out.size (HKS.out _).size)
                    · have h1 := own_kp HOW.out (HKS.out (.slice (some ⟨g', 0, none⟩) (zs.length + 1) cap')) (fun b hb hl hc => HVC.out (by rw [hb, hc]))
                      rw [show (zs ++ [(v2, t2)]).length = zs.length + 1 by simp, show (zs ++ [(v2, t2)]).flatMap nenc = zs.flatMap nenc ++ nenc (v2, t2) by simp]
                      exact h1
                    · exact fun z hz => ((HKI.out z hz).kp_of (HKS.out _) (fun b hb => .inl (.inr hb))).mono (fun b hb => by
                        rcases hb with h1 | h1 | h1
                        · exact .inl (.inl h1)
                        · exact .inl (.inr h1)
                        · exact .inr h1)
                  · have hv := HV.out
                    rcases HC10.out with ⟨h1, h2, h3, h4⟩ | ⟨h1, h2⟩
                    · rw [h2] at hv
                      refine .inl ⟨h1, h3, by omega, by rw [List.length_append, List.length_singleton]; omega, by omega, g, by omega, by omega, ?_⟩
                      rw [List.map_append, List.map_singleton]
                      exact hv
                    · rw [h2] at hv
                      exact .inr ⟨h1, hv.symm⟩
end Go.Proofs.YtnnfhcbopchodaaDoor
namespace Go.Proofs.YtnnfhcbopchodaaDoor
open Go Go.RowKit
set_option linter.unusedVariables false
set_option linter.unusedSimpArgs false
set_option maxRecDepth 100000
theorem r4_all (f : Nat) : AltC f ∧ PieceC f ∧ AtomC f := by
  induction f using Nat.strongRecOn with
  | _ f ih =>
    refine ⟨r4alts_any f (fun g hg => (ih g hg).2.1), r4pieces_any f (fun g hg => (ih g hg).2.2), ?_⟩
    cases f with
    | zero => exact fun rb s p d bad w h1 h2 h3 h4 h5 => absurd h5 (by omega)
    | succ f => exact atomC_of (ih f (Nat.lt_succ_self f)).1
@[go_sem] theorem Tryd.runN0 (w : World) : (Instr.build NdT #[]).run Tryd.prog w = .ok (.agg (nenc (zN 0)).toArray) w := run_build w NdT #[] _ Tryd.buildN0
/-- What holds of every world of a region. -/
def TCon (S : World → Prop) (d : Array Bool) (w : World) : Prop := S w
theorem tcon_ins {S : World → Prop} (i : Nat) : ∀ (d : Array Bool) (u : World), TCon S (d.setIfInBounds i true) u ↔ TCon S d u := fun _ _ => Iff.rfl
def endR (A : Option (RT × List UInt8)) : Option RT := match A with
  | none => none
  | some (t, r) => if r = [] then some t else none
theorem compR_end (s : ByteArray) : compR s.data.toList = endR (altsL (3 * s.size + 5) 0 s.data.toList) := rfl
/-- What Compile answers. -/
def RcQ (w : World) (R : Option RT) (e : Ending) (w' : World) : Prop :=
  Below w.heap.size w w' ∧ ((∃ v t, R = some t ∧ e = .returned (.tuple #[.agg (nenc (v, t)).toArray, .int .i64 0, .int .i64 0]) ∧ NdOk (· < w.heap.size) w' v t) ∨ (R = none ∧ ∃ bd er : Int, er ≠ 0 ∧ e = .returned (.tuple #[.agg (nenc (zN 0)).toArray, .int .i64 bd, .int .i64 er])))
theorem Tryd.resultNd3 {fn : Func} {p q r : Tmp} {tmps : Array Value} {w : World} {g : Nat} {z : ZNd} (h : fn.results = #[.cell p NdT, .tmp q, .tmp r]) (hp : tmps.getD p undef = .pointer (some ⟨g, 0, none⟩)) (hz : NdB w g z) :
    (results fn tmps).run Tryd.prog w = .ok (.tuple #[.agg (nenc z).toArray, tmps.getD q undef, tmps.getD r undef]) w := by
  obtain ⟨d, hd, hr⟩ := Tryd.ndRow
  have hp' : tmps[p]?.getD undef = .pointer (some ⟨g, 0, none⟩) := by simpa using hp
  have hl := run_loadVar_row (P := Tryd.prog) w g NdT NdT _ _ d hz hd (by cases d <;> simp_all) (by rw [nenc_size]; exact Tryd.infoNd)
  simp [results, h, hp', asAddr, hl]
set_option maxHeartbeats 8000000 in
theorem r4compile_any (s : ByteArray) (w : World) (hs : s.size ≤ 4096) :
    Calls Tryd.prog 10 #[.string s] w fun e w' => RcQ w (compR s.data.toList) e w' := by
  obtain ⟨n, hn⟩ : ∃ n, w.heap.size = n := ⟨_, rfl⟩
  have HN := Lib.hid hn
  obtain ⟨A1, hA1⟩ : ∃ A1, A1 = altsL (3 * s.size + 5) 0 s.data.toList := ⟨_, rfl⟩
  obtain ⟨R, hR⟩ : ∃ R, R = compR s.data.toList := ⟨_, rfl⟩
  have HV := Lib.hid (show R = endR A1 by rw [hR, hA1, compR_end])
  rw [← hR]
  have hal := (r4_all (3 * s.size + 5)).1 (n + 1) s 0 0 0
  rw [List.drop_zero, ← hA1] at hal
  have HAL := Lib.hid hal
  have hs2 : decide ((4096 : Int) < (s.size : Int)) = false := by rw [decide_eq_false_iff_not]; omega
  clear hn hA1 hR hal
  go_enter Tryd.func10, Tryd.ntmps10
  go_wp2_with (first
    | (refine Tryd.stepAllocNd (n := n) rfl rfl HN.out ?_
       intro W1 p1 z1 k1
       have HA1 := Lib.hid p1
       have HZ1 := Lib.hid z1
       have HK1 := Lib.hid k1
       clear p1 z1 k1))
  rw [HZ1.out]
  have HR2 := Lib.hid (show R4 (W1.alloc (.cells #[.string s, .int .i64 0, .int .i64 0, .int .i64 0, .int .i64 0] 75)) (n + 1) s 0 0 0 0 by
    have := heap_new W1 (.cells #[.string s, .int .i64 0, .int .i64 0, .int .i64 0, .int .i64 0] 75)
    rw [HZ1.out] at this
    exact this)
  refine (HAL.out _ HR2.out hs (Nat.zero_le _) (by omega) (by omega)).mono ?_
  rintro e w3 ⟨v, t, a2, er, bd, rfl, hr3, hk3, had, hn3, hc3⟩
  have ka : Kp (fun _ => False) W1 (W1.alloc (.cells #[.string s, .int .i64 0, .int .i64 0, .int .i64 0, .int .i64 0] 75)) := (Kp.refl _ _).alloc _
  have HK3 := Lib.hid (show Kp (fun _ => False) w w3 from (HK1.out.trans ka).trans_new hk3 (fun b hb => .inr (by have := HN.out; omega)))
  have HR3 := Lib.hid hr3
  have HA3 := Lib.hid ((HA1.out.kp ka (fun h => h)).kp hk3 (by omega))
  have HN3 := Lib.hid (show NdOk (· < n + 2) w3 v t from hn3.mono (fun b hb => by have := HZ1.out; simp; omega))
  have HC3 := Lib.hid hc3
  obtain ⟨M, hM⟩ : ∃ M, w3.heap.size = M := ⟨_, rfl⟩
  have HM := Lib.hid hM
  have hnM : n + 2 ≤ M := by have h1 := hk3.size; have h2 := HZ1.out; simp at h1; omega
  clear hr3 hk3 hn3 hc3 ka hM HR2 HA1 HK1 HZ1
  go_upto_region 5 with (first
    | (refine Tryd.stepAllocNd (n := M) rfl rfl HM.out ?_
       intro W4 p4 z4 k4
       have HA4 := Lib.hid p4
       have HZ4 := Lib.hid z4
       have HK4 := Lib.hid k4
       clear p4 z4 k4)
    | (refine Tryd.stepStoreNd (z := zN 0) (z' := (v, t)) (.tmp 6) (.tmp 15) M rfl rfl rfl rfl HA4.out HN3.out.one ?_
       intro W5 p5 z5 k5
       have kk : Kp (· = M) w3 W5 := (HK4.out.mono (fun _ _ h => h.elim)).trans k5
       have HP5 := Lib.hid p5
       have HR5 := Lib.hid (HR3.out.kp kk (by omega))
       have HA5 := Lib.hid (HA3.out.kp kk (by omega))
       have HK5 := Lib.hid (show Kp (fun _ => False) w W5 from HK3.out.trans_new kk (fun b hb => .inr (by have := HN.out; omega)))
       have HN5 := Lib.hid (show NdOk (fun b => b < n + 2 ∨ b = M) W5 v t from ((HN3.out.new).kp_of kk (fun b hb => .inr (by have := HM.out; omega))).mono (fun b hb => by
         rcases hb with h1 | h1
         · exact .inl h1
         · exact .inr (by have := HM.out; omega)))
       have c1 := HR5.out.c1
       have c3 := HR5.out.c3
       clear p5 z5 k5 kk))
  obtain ⟨mb, hmb⟩ : ∃ mb, mb = decide (er = 0 ∧ a2 < s.size) := ⟨_, rfl⟩
  have HMB := Lib.hid hmb
  clear HR3 HA3 HN3 HA4 HZ4 HK4
  first | go_values | go_simp
  go_cut [29] (fun s29 wx => s29 = .bool mb ∧ wx = W5)
  case first =>
    by_cases he : er = 0
    · subst he
      by_cases hlt : a2 < s.size
      · have hb : mb = true := by rw [hmb, decide_eq_true_iff]; exact ⟨rfl, hlt⟩
        subst hb
        have g1 : decide ((a2 : Int) < (s.size : Int)) = true := by rw [decide_eq_true_iff]; omega
        clear hmb
        go_wp2_with fail
        go_meet
        exact ⟨rfl, rfl⟩
      · have hb : mb = false := by rw [hmb, decide_eq_false_iff_not]; exact fun h => hlt h.2
        subst hb
        have g1 : decide ((a2 : Int) < (s.size : Int)) = false := by rw [decide_eq_false_iff_not]; omega
        clear hmb
        go_wp2_with fail
        go_meet
        exact ⟨rfl, rfl⟩
    · have hb : mb = false := by rw [hmb, decide_eq_false_iff_not]; exact fun h => he h.1
      subst hb
      have e0 : (er == 0) = false := by rw [beq_eq_false_iff_ne]; exact he
      clear hmb he
      go_wp2_with fail
      go_meet
      exact ⟨rfl, rfl⟩
  case rest =>
    obtain ⟨rfl, rfl⟩ := hcut
    clear hmb
    go_upto_if 29 with fail
    go_cut [] (fun wx => ∃ e2 b2 : Int, R4 wx (n + 1) s a2 0 e2 b2 ∧ NdB wx n (zN 0) ∧ NdB wx M (v, t) ∧ NdOk (fun b => b < n + 2 ∨ b = M) wx v t ∧ Kp (fun _ => False) w wx ∧ ((e2 = 0 ∧ R = some t) ∨ (e2 ≠ 0 ∧ R = none)))
    case first =>
      cases mb with
      | false =>
        go_wp2_with fail
        go_meet
        refine ⟨er, bd, HR5.out, HA5.out, HP5.out, HN5.out, HK5.out, ?_⟩
        have hx := of_decide_eq_false HMB.out.symm
        have hv := HV.out
        rcases HC3.out with ⟨h1, h2, h3, h4⟩ | ⟨h1, h2⟩
        · rw [h2] at hv
          exact .inl ⟨h1, by rw [hv]; show (if s.data.toList.drop a2 = [] then some t else none) = some t; rw [if_pos (drop_over (by omega))]⟩
        · rw [h2] at hv
          exact .inr ⟨h1, hv⟩
      | true =>
        have hx := of_decide_eq_true HMB.out.symm
        obtain ⟨rfl, hlt⟩ := hx
        go_wp2_with fail
        refine (r4fail_any (n + 1) s a2 0 bd 2 _ _ HR5.out).mono ?_
        rintro e w6 ⟨rfl, hr6, hk6⟩
        have HR6 := Lib.hid hr6
        have HK6 := Lib.hid hk6
        clear hr6 hk6 c1 c3
        go_wp2_with fail
        go_meet
        refine ⟨2, _, HR6.out, HA5.out.kp HK6.out (by omega), HP5.out.kp HK6.out (by omega), HN5.out.kp_of HK6.out (fun b hb => .inl (by omega)), HK5.out.trans_new HK6.out (fun b hb => .inr (by have := HN.out; omega)), .inr ⟨by decide, ?_⟩⟩
        have hv := HV.out
        rcases HC3.out with ⟨h1, h2, h3, h4⟩ | ⟨h1, h2⟩
        · rw [h2] at hv
          rw [hv]
          show (if s.data.toList.drop a2 = [] then some t else none) = none
          rw [if_neg (by rw [drop_bAt hlt]; exact fun e => by cases e)]
        · exact absurd rfl h1
    case rest =>
      obtain ⟨e2, b2, hr9, ha9, hp9, hn9, hk9, hres⟩ := hcut
      have HR9 := Lib.hid hr9
      have HA9 := Lib.hid ha9
      have HP9 := Lib.hid hp9
      have HN9 := Lib.hid hn9
      have HK9 := Lib.hid hk9
      have HRES := Lib.hid hres
      clear hr9 ha9 hp9 hn9 hk9 hres c1 c3 HR5 HA5 HP5 HN5 HK5 HMB HC3 HV
      have c3 := HR9.out.c3
      by_cases he : e2 = 0
      · subst he
        have HRE := Lib.hid (show R = some t by
          rcases HRES.out with ⟨-, h⟩ | ⟨h, -⟩
          · exact h
          · exact absurd rfl h)
        go_wp2_with (first
          | (refine Tryd.stepLoadNd (z := (v, t)) (.tmp 6) M rfl rfl rfl HP9.out ?_)
          | (refine Tryd.stepStoreNd (z := zN 0) (z' := (v, t)) (.tmp 2) (.tmp 50) n rfl rfl rfl rfl HA9.out HN9.out.one ?_
             intro W10 p10 z10 k10))
        refine bodyPost_ret (Tryd.resultNd3 rfl rfl p10) rfl ⟨?_, .inl ⟨v, t, HRE.out, rfl, ?_⟩⟩
        · exact (HK9.out.trans_new k10 (fun b hb => .inr (by have := HN.out; omega))).below (Nat.le_refl _) (fun b h => h.elim)
        · exact (HN9.out.kp_of k10 (fun b hb => .inl (by omega))).mono (fun b hb => .inl (by have := HN.out; omega))
      · have HRE := Lib.hid (show R = none by
          rcases HRES.out with ⟨h, -⟩ | ⟨-, h⟩
          · exact absurd h he
          · exact h)
        have HE := Lib.hid he
        have e0 : (e2 != 0) = true := by simpa using he
        clear he
        go_wp2_with fail
        obtain ⟨w9, hw9⟩ : ∃ w9, w9 = wc := ⟨_, rfl⟩
        rw [← hw9] at HR9 HA9 HP9 HN9 HK9 ⊢
        clear hw9 c3
        have mixed : Tryd.prog.follows .mixedOrders = true := by kernel_rfl
        refine wp_region_T (TCon fun w => R4 w (n + 1) s a2 0 e2 b2) mixed ?_
        refine anyT_take (i := 0) (oi := ?oi0) (v := ?vv0) ?hh0 (by kernel_rfl) (by kernel_rfl) (by kernel_rfl) ?qq0 (tcon_ins 0) (Or.inl ⟨?wd0, ?yy0⟩) HR9.out ?rest0
        case hh0 => simp only [List.getElem?_toArray, List.getElem?_cons_succ, List.getElem?_cons_zero]; try rfl
        case qq0 => exact fun _ _ _ h => h
        case wd0 => rfl
        case yy0 => (intro w hSw; go_simp; try with_reducible rfl)
        try simp only [Act.put, List.setIfInBounds_toArray, List.set_cons_zero, List.set_cons_succ]
        refine anyT_take (i := 1) (oi := ?oi1) (v := ?vv1) ?hh1 (by kernel_rfl) (by kernel_rfl) (by kernel_rfl) ?qq1 (tcon_ins 1) (Or.inl ⟨?wd1, ?yy1⟩) HR9.out ?rest1
        case hh1 => simp only [List.getElem?_toArray, List.getElem?_cons_succ, List.getElem?_cons_zero]; try rfl
        case qq1 => exact fun _ _ _ h => h
        case wd1 => rfl
        case yy1 => (intro w hSw; go_simp; try with_reducible rfl)
        try simp only [Act.put, List.setIfInBounds_toArray, List.set_cons_zero, List.set_cons_succ]
        refine anyT_take (i := 2) (oi := ?oi2) (v := ?vv2) ?hh2 (by kernel_rfl) (by kernel_rfl) (by kernel_rfl) ?qq2 (tcon_ins 2) (Or.inl ⟨?wd2, ?yy2⟩) HR9.out ?rest2
        case hh2 => simp only [List.getElem?_toArray, List.getElem?_cons_succ, List.getElem?_cons_zero]; try rfl
        case qq2 => exact fun _ _ _ h => h
        case wd2 => rfl
        case yy2 => (intro w hSw; go_simp; try with_reducible rfl)
        try simp only [Act.put, List.setIfInBounds_toArray, List.set_cons_zero, List.set_cons_succ]
        refine anyT_take (i := 3) (oi := ?oi3) (v := ?vv3) ?hh3 (by kernel_rfl) (by kernel_rfl) (by kernel_rfl) ?qq3 (tcon_ins 3) (Or.inl ⟨?wd3, ?yy3⟩) HR9.out ?rest3
        case hh3 => simp only [List.getElem?_toArray, List.getElem?_cons_succ, List.getElem?_cons_zero]; try rfl
        case qq3 => exact fun _ _ _ h => h
        case wd3 => rfl
        case yy3 => (intro w hSw; go_simp; try with_reducible rfl)
        try simp only [Act.put, List.setIfInBounds_toArray, List.set_cons_zero, List.set_cons_succ]
        refine anyT_take (i := 4) (oi := ?oi4) (v := ?vv4) ?hh4 (by kernel_rfl) (by kernel_rfl) (by kernel_rfl) ?qq4 (tcon_ins 4) (Or.inl ⟨?wd4, ?yy4⟩) HR9.out ?rest4
        case hh4 => simp only [List.getElem?_toArray, List.getElem?_cons_succ, List.getElem?_cons_zero]; try rfl
        case qq4 => exact fun _ _ _ h => h
        case wd4 => rfl
        case yy4 => (intro w hSw; obtain ⟨d9, hcd, hrd, hTd⟩ := hSw; have hcell := R4.c4 hTd; clear hTd hcd hrd; go_simp; try with_reducible rfl)
        try simp only [Act.put, List.setIfInBounds_toArray, List.set_cons_zero, List.set_cons_succ]
        refine anyT_take (i := 5) (oi := ?oi5) (v := ?vv5) ?hh5 (by kernel_rfl) (by kernel_rfl) (by kernel_rfl) ?qq5 (tcon_ins 5) (Or.inl ⟨?wd5, ?yy5⟩) HR9.out ?rest5
        case hh5 => simp only [List.getElem?_toArray, List.getElem?_cons_succ, List.getElem?_cons_zero]; try rfl
        case qq5 => exact fun _ _ _ h => h
        case wd5 => rfl
        case yy5 => (intro w hSw; go_simp; try with_reducible rfl)
        try simp only [Act.put, List.setIfInBounds_toArray, List.set_cons_zero, List.set_cons_succ]
        refine anyT_take (i := 6) (oi := ?oi6) (v := ?vv6) ?hh6 (by kernel_rfl) (by kernel_rfl) (by kernel_rfl) ?qq6 (tcon_ins 6) (Or.inl ⟨?wd6, ?yy6⟩) HR9.out ?rest6
        case hh6 => simp only [List.getElem?_toArray, List.getElem?_cons_succ, List.getElem?_cons_zero]; try rfl
        case qq6 => exact fun _ _ _ h => h
        case wd6 => rfl
        case yy6 => (intro w hSw; go_simp; try with_reducible rfl)
        try simp only [Act.put, List.setIfInBounds_toArray, List.set_cons_zero, List.set_cons_succ]
        refine anyT_take (i := 7) (oi := ?oi7) (v := ?vv7) ?hh7 (by kernel_rfl) (by kernel_rfl) (by kernel_rfl) ?qq7 (tcon_ins 7) (Or.inl ⟨?wd7, ?yy7⟩) HR9.out ?rest7
        case hh7 => simp only [List.getElem?_toArray, List.getElem?_cons_succ, List.getElem?_cons_zero]; try rfl
        case qq7 => exact fun _ _ _ h => h
        case wd7 => rfl
        case yy7 => (intro w hSw; go_simp; try with_reducible rfl)
        try simp only [Act.put, List.setIfInBounds_toArray, List.set_cons_zero, List.set_cons_succ]
        refine anyT_take (i := 8) (oi := ?oi8) (v := ?vv8) ?hh8 (by kernel_rfl) (by kernel_rfl) (by kernel_rfl) ?qq8 (tcon_ins 8) (Or.inl ⟨?wd8, ?yy8⟩) HR9.out ?rest8
        case hh8 => simp only [List.getElem?_toArray, List.getElem?_cons_succ, List.getElem?_cons_zero]; try rfl
        case qq8 => exact fun _ _ _ h => h
        case wd8 => rfl
        case yy8 => (intro w hSw; obtain ⟨d9, hcd, hrd, hTd⟩ := hSw; have hcell := R4.c3 hTd; clear hTd hcd hrd; go_simp; try with_reducible rfl)
        try simp only [Act.put, List.setIfInBounds_toArray, List.set_cons_zero, List.set_cons_succ]
        refine anyT_one (o := ?No9) (by kernel_rfl : _ = [9]) ?Nh9 ?Nm9
        case Nh9 => simp only [List.getElem?_toArray, List.getElem?_cons_succ, List.getElem?_cons_zero]; try rfl
        case Nm9 =>
          intro K hK
          have h33 : Tryd.zeroCells33 = (nenc (zN 0)).toArray := by kernel_rfl
          refine step_wanted rfl (wp_store_row NdT (.tmp 2) (.tmp 41) rfl n (nenc (zN 0)).toArray rfl (congrArg Value.agg h33) NdT _ HA9.out (by rw [nenc_size]; exact Tryd.infoNd) rfl (nenc_all rfl) ?_)
          have kw : Kp (· = n) w9.drew (w9.drew.setRow n (nenc (zN 0)).toArray) := (Kp.refl (· = n) w9.drew).setRow (g := n) (.inl rfl) _
          have HR10 := Lib.hid (show R4 (w9.drew.setRow n (nenc (zN 0)).toArray) (n + 1) s a2 0 e2 b2 from (show R4 w9.drew (n + 1) s a2 0 e2 b2 from HR9.out).kp kw (by omega))
          have HP10 := Lib.hid (show NdB (w9.drew.setRow n (nenc (zN 0)).toArray) n (zN 0) from setRow_heap _ _ _ _ _ _ HA9.out)
          have HB10 := Lib.hid ((HK9.out.drewN 1).trans_new kw (fun b hb => .inr (by have := HN.out; omega)))
          refine hK.out _ _ HR10.out (fun hHeld => ?_)
          clear hHeld hK K
          try simp only [Act.put, List.setIfInBounds_toArray, List.set_cons_zero, List.set_cons_succ]
          refine anyT_take (i := 10) (oi := ?oi10) (v := ?vv10) ?hh10 (by kernel_rfl) (by kernel_rfl) (by kernel_rfl) ?qq10 (tcon_ins 10) (Or.inl ⟨?wd10, ?yy10⟩) HR10.out ?rest10
          case hh10 => simp only [List.getElem?_toArray, List.getElem?_cons_succ, List.getElem?_cons_zero]; try rfl
          case qq10 => exact fun _ _ _ h => h
          case wd10 => rfl
          case yy10 => (intro w hSw; go_simp; try with_reducible rfl)
          try simp only [Act.put, List.setIfInBounds_toArray, List.set_cons_zero, List.set_cons_succ]
          refine anyT_take (i := 11) (oi := ?oi11) (v := ?vv11) ?hh11 (by kernel_rfl) (by kernel_rfl) (by kernel_rfl) ?qq11 (tcon_ins 11) (Or.inl ⟨?wd11, ?yy11⟩) HR10.out ?rest11
          case hh11 => simp only [List.getElem?_toArray, List.getElem?_cons_succ, List.getElem?_cons_zero]; try rfl
          case qq11 => exact fun _ _ _ h => h
          case wd11 => rfl
          case yy11 => (intro w hSw; go_simp; try with_reducible rfl)
          try simp only [Act.put, List.setIfInBounds_toArray, List.set_cons_zero, List.set_cons_succ]
          refine anyT_done (by kernel_rfl) ?_ _
          go_wp2_with fail
          refine bodyPost_ret (Tryd.resultNd3 rfl rfl HP10.out) rfl ⟨?_, .inr ⟨HRE.out, b2, e2, HE.out, rfl⟩⟩
          exact HB10.out.below (Nat.le_refl _) (fun b h => h.elim)
end Go.Proofs.YtnnfhcbopchodaaDoor
