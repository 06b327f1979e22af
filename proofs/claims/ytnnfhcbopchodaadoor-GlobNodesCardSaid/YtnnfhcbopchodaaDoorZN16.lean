/- Chapter 4's emit: once or more, any number, at most once. (Printed by gen_rm3.py.) Chapter 4's emit: alternatives. (Several texts in one file, by merge.py.) -/
import Derived.Test.YtnnfhcbopchodaaDoorZN15
namespace Go.Proofs.YtnnfhcbopchodaaDoor
open Go Go.RowKit
set_option linter.unusedVariables false
set_option linter.unusedSimpArgs false
set_option maxRecDepth 100000
theorem EmQ.putB {N : Nat} {v : Value} {w w1 : World} {q : List In} {g n cap : Nat} (h : EmQ N v w q (.slice (some ⟨g, 0, none⟩) n cap) w1) {f : Nat} (hf : f < q.length) (x : Nat) : EmQ N v w (putB q f x) (.slice (some ⟨g, 0, none⟩) n cap) (w1.setCell ⟨g, f * 259 + 258, none⟩ (.int .i64 x)) :=
  ⟨h.1.putB hf x, h.2.1.setCell (p := ⟨g, f * 259 + 258, none⟩) (h.2.2 g rfl) _, h.2.2⟩
theorem EmQ.putA {N : Nat} {v : Value} {w w1 : World} {q : List In} {g n cap : Nat} (h : EmQ N v w q (.slice (some ⟨g, 0, none⟩) n cap) w1) {f : Nat} (hf : f < q.length) (x : Nat) : EmQ N v w (putA q f x) (.slice (some ⟨g, 0, none⟩) n cap) (w1.setCell ⟨g, f * 259 + 257, none⟩ (.int .i64 x)) :=
  ⟨h.1.putA hf x, h.2.1.setCell (p := ⟨g, f * 259 + 257, none⟩) (h.2.2 g rfl) _, h.2.2⟩
set_option maxHeartbeats 4000000 in
theorem emit_5 (k : Nat) (hk : k = 5) (kids : List RT) (S : UInt8 → Bool) (hne : kids ≠ []) (HK : ∀ t ∈ kids, EmC t) : EmC (.node k kids S) := by
  intro z1 v p N w hN ho hz hc
  obtain ⟨ak, capk, zs, rfl, -, -, -, -⟩ := hz.kids
  obtain ⟨a, cap, rfl⟩ := own_slice ho
  have e3 : ((k : Int) == 3) = false := by rw [hk]; rfl
  have e1 : ((k : Int) == 1) = false := by rw [hk]; rfl
  have e2 : ((k : Int) == 2) = false := by rw [hk]; rfl
  have e5 : ((k : Int) == 5) = true := by rw [hk]; rfl
  have HO := Lib.hid ho
  have HN := Lib.hid hN
  have HZ := Lib.hid hz
  have hkl : 0 < kids.length := by
    cases kids with
    | nil => exact absurd rfl hne
    | cons a r => exact Nat.succ_pos _
  have hpl : p.length ≤ 50000 := by omega
  have HC := Lib.hid (show p.length + (2 + costT kids[0]) + 2 ≤ 50000 by
    have := costsT_take kids 0 hkl
    rw [costT] at hc
    omega)
  have hon : ∀ q, oneP q kids = emitP q kids[0] := fun q => by
    cases kids with
    | nil => exact absurd rfl hne
    | cons a r => rw [oneP]; rfl
  have HQ := Lib.hid (show emitP p (.node k kids S) = emitP p kids[0] ++ [⟨2, noS, p.length, (emitP p kids[0]).length + 1⟩] by rw [emitP, if_neg (by omega), if_neg (by omega), if_neg (by omega), if_pos hk, hon])
  have HKS := Lib.hid (HK kids[0] (List.getElem_mem hkl))
  rw [HQ.out]
  clear ho hz hc hk hN HK hne hon
  obtain ⟨n, hn⟩ : ∃ n, w.heap.size = n := ⟨_, rfl⟩
  have HNN := Lib.hid hn
  clear hn
  obtain ⟨k0, hk0⟩ : ∃ k0, k0 = kids[0] := ⟨_, rfl⟩
  have HK0 := Lib.hid hk0
  rw [← hk0] at HC HKS HQ ⊢
  clear hk0
  obtain ⟨q, hqq⟩ : ∃ q, q = emitP p k0 := ⟨_, rfl⟩
  have HQQ := Lib.hid hqq
  have hql : q.length ≤ 50000 := by rw [hqq]; have := (emitP_len k0 p).2; have := HC.out; omega
  rw [← hqq]
  clear hqq
  go_enter Tryd.func30, Tryd.ntmps30
  go_wp2_with (first
    | (refine Tryd.stepBoxNd (z := (.slice ak kids.length capk, .node k kids S)) (.tmp 1) rfl rfl rfl ?_
       intro W1 p1 s1 k1
       rw [HNN.out] at p1 ⊢
       have c0 : W1.cell? ⟨n, 0, none⟩ = some (.int .i64 (k : Int)) := p1.c0
       have c1 : W1.cell? ⟨n, 1, none⟩ = some (.slice ak kids.length capk) := p1.c1
       have HP1 := Lib.hid p1
       have HE1 := Lib.hid ((EmQ.refl HO.out).beside k1 (fun _ h => h.elim))
       have HZ1 := Lib.hid (show NdOk (fun b => (Value.slice a p.length cap).ownBlock = some b ∨ b = n) W1 (.slice ak kids.length capk) (.node k kids S) from ((HZ.out.new).kp_of k1 (fun _ h => h.elim)).mono (fun b hb => by
         rcases hb with hb | hb
         · exact .inl (.inl hb)
         · exact .inr (by have := HNN.out; omega)))
       have HB1 := Lib.hid (show (Value.slice a p.length cap).ownBlock ≠ some n from fun e => by have := (HO.out.bd e).2; have := HNN.out; omega)
       have HS1 := Lib.hid (show N ≤ W1.heap.size by rw [s1]; have := HN.out; omega)
       obtain ⟨z, b, off, hak, hb1, hb2, hzk, hcells⟩ := HZ1.out.kid hkl
       rw [← HK0.out] at hzk hcells
       subst hak
       have HCE := Lib.hid hcells
       have HZK := Lib.hid (show NdOk (fun b => (Value.slice a p.length cap).ownBlock = some b ∨ False) W1 z k0 from hzk.mono (fun b hb => by
         rcases hb with h | h
         · exact .inl h
         · exact h.elim))
       clear hzk hcells hb1 hb2 p1 s1 k1)
    | (refine Tryd.stepLoadNdMid (z := (z, k0)) (.tmp 112) b (off + 0 * 258) rfl rfl rfl HCE.out ?_))
  refine (HKS.out z (.slice a p.length cap) p N W1 HS1.out HE1.out.1 HZK.out (by have := HC.out; omega)).mono ?_
  rintro e w2 ⟨v', rfl, hq⟩
  rw [← HQQ.out] at hq
  obtain ⟨a2, cap2, hv2⟩ := own_slice hq.1
  have HE2 := Lib.hid (HE1.out.trans hq)
  have hsz := hq.2.1.size
  have HS2 := Lib.hid (Nat.le_trans HS1.out hsz)
  subst hv2
  have hql2 : q.length ≤ 100000 := by omega
  clear hq hsz c0 c1
  go_wp2_with (first
    | (refine Tryd.stepBuildI_kab 2 p.length (q.length + 1) (.tmp 116) (.tmp 119) rfl rfl rfl rfl ?_)
    | (refine Tryd.stepSliceIn (i := ⟨2, noS, p.length, q.length + 1⟩) (.tmp 120) rfl rfl rfl ?_)
    | (refine Tryd.stepAppendIn (v := .slice a2 q.length cap2) (p := q) (i := ⟨2, noS, p.length, q.length + 1⟩) (N := N) (.tmp 115) (.tmp 121) w2.heap.size rfl rfl rfl rfl (World.ownsRow.alloc HE2.out.1 _) (heap_new w2 _) hql2 (by have := HS2.out; simp; omega) ?_
       intro v3 w3 hown hgrow hat
       have HF := Lib.hid (HE2.out.push hown hgrow hat)
       clear hown hgrow hat))
  go_wp2_with fail
  first | go_values | go_simp
  go_ret
  exact ⟨_, rfl, HF.out⟩
set_option maxHeartbeats 4000000 in
theorem emit_4 (k : Nat) (hk : k = 4) (kids : List RT) (S : UInt8 → Bool) (hne : kids ≠ []) (HK : ∀ t ∈ kids, EmC t) : EmC (.node k kids S) := by
  intro z1 v p N w hN ho hz hc
  obtain ⟨ak, capk, zs, rfl, -, -, -, -⟩ := hz.kids
  obtain ⟨a, cap, rfl⟩ := own_slice ho
  have e3 : ((k : Int) == 3) = false := by rw [hk]; rfl
  have e1 : ((k : Int) == 1) = false := by rw [hk]; rfl
  have e2 : ((k : Int) == 2) = false := by rw [hk]; rfl
  have e5 : ((k : Int) == 5) = false := by rw [hk]; rfl
  have e4 : ((k : Int) == 4) = true := by rw [hk]; rfl
  have HO := Lib.hid ho
  have HN := Lib.hid hN
  have HZ := Lib.hid hz
  have hkl : 0 < kids.length := by
    cases kids with
    | nil => exact absurd rfl hne
    | cons a r => exact Nat.succ_pos _
  have hpl : p.length ≤ 50000 := by omega
  have hpl2 : p.length ≤ 100000 := by omega
  have HC := Lib.hid (show p.length + (2 + costT kids[0]) + 2 ≤ 50000 by
    have := costsT_take kids 0 hkl
    rw [costT] at hc
    omega)
  have hon : ∀ q, oneP q kids = emitP q kids[0] := fun q => by
    cases kids with
    | nil => exact absurd rfl hne
    | cons a r => rw [oneP]; rfl
  have HQ := Lib.hid (show emitP p (.node k kids S) = putB (emitP (p ++ [⟨2, noS, p.length + 1, 0⟩]) kids[0] ++ [⟨3, noS, p.length, 0⟩]) p.length ((emitP (p ++ [⟨2, noS, p.length + 1, 0⟩]) kids[0]).length + 1) by rw [emitP, if_neg (by omega), if_neg (by omega), if_neg (by omega), if_neg (by omega), if_pos hk, hon])
  have HKS := Lib.hid (HK kids[0] (List.getElem_mem hkl))
  rw [HQ.out]
  clear ho hz hc hk hN HK hne hon
  obtain ⟨n, hn⟩ : ∃ n, w.heap.size = n := ⟨_, rfl⟩
  have HNN := Lib.hid hn
  clear hn
  obtain ⟨k0, hk0⟩ : ∃ k0, k0 = kids[0] := ⟨_, rfl⟩
  have HK0 := Lib.hid hk0
  rw [← hk0] at HC HKS HQ ⊢
  clear hk0
  obtain ⟨q, hqq⟩ : ∃ q, q = emitP (p ++ [⟨2, noS, p.length + 1, 0⟩]) k0 := ⟨_, rfl⟩
  have HQQ := Lib.hid hqq
  have hql : p.length + 1 ≤ q.length ∧ q.length ≤ 50000 := by
    rw [hqq]
    have h1 := emitP_len k0 (p ++ [⟨2, noS, p.length + 1, 0⟩])
    rw [List.length_append, List.length_singleton] at h1
    have := HC.out
    omega
  rw [← hqq]
  clear hqq
  go_enter Tryd.func30, Tryd.ntmps30
  go_wp2_with (first
    | (refine Tryd.stepBoxNd (z := (.slice ak kids.length capk, .node k kids S)) (.tmp 1) rfl rfl rfl ?_
       intro W1 p1 s1 k1
       rw [HNN.out] at p1 ⊢
       have c0 : W1.cell? ⟨n, 0, none⟩ = some (.int .i64 (k : Int)) := p1.c0
       have HP1 := Lib.hid p1
       have HE1 := Lib.hid ((EmQ.refl HO.out).beside k1 (fun _ h => h.elim))
       have HZ1 := Lib.hid (show NdOk (fun b => (Value.slice a p.length cap).ownBlock = some b ∨ b = n) W1 (.slice ak kids.length capk) (.node k kids S) from ((HZ.out.new).kp_of k1 (fun _ h => h.elim)).mono (fun b hb => by
         rcases hb with hb | hb
         · exact .inl (.inl hb)
         · exact .inr (by have := HNN.out; omega)))
       have HB1 := Lib.hid (show (Value.slice a p.length cap).ownBlock ≠ some n from fun e => by have := (HO.out.bd e).2; have := HNN.out; omega)
       have HS1 := Lib.hid (show N ≤ W1.heap.size by rw [s1]; have := HN.out; omega)
       clear p1 s1 k1)
    | (refine Tryd.stepBuildI_ka 2 (p.length + 1) (.tmp 125) rfl rfl rfl ?_)
    | (refine Tryd.stepSliceIn (i := ⟨2, noS, p.length + 1, 0⟩) (.tmp 126) rfl rfl rfl ?_)
    | (refine Tryd.stepAppendIn (v := .slice a p.length cap) (p := p) (i := ⟨2, noS, p.length + 1, 0⟩) (N := N) (.tmp 123) (.tmp 127) W1.heap.size rfl rfl rfl rfl (World.ownsRow.alloc HE1.out.1 _) (heap_new W1 _) hpl2 (by have := HS1.out; simp; omega) ?_
       intro v1 w2 hown hgrow hat
       have hA := EmQ.app (w := W1) ((Below.refl _ _).alloc (Nat.le_refl _) _) hown hgrow hat
       have HE2 := Lib.hid (HE1.out.trans hA)
       have HZ2 := Lib.hid (hA.nd HZ1.out)
       have HP2 := Lib.hid (HP1.out.kp hA.2.1 (fun e => HB1.out e))
       have HB2 := Lib.hid (hA.blk HP1.out.lt HB1.out)
       have HS2 := Lib.hid (Nat.le_trans HS1.out hA.2.1.size)
       have c1 : w2.cell? ⟨n, 1, none⟩ = some (.slice ak kids.length capk) := HP2.out.c1
       obtain ⟨z, b, off, hak, hb1, hb2, hzk, hcells⟩ := HZ2.out.kid hkl
       rw [← HK0.out] at hzk hcells
       subst hak
       have HCE := Lib.hid hcells
       have HZK := Lib.hid (show NdOk (fun b => v1.ownBlock = some b ∨ False) w2 z k0 from hzk.mono (fun b hb => by
         rcases hb with h | h
         · exact .inl h
         · exact h.elim))
       clear hzk hcells hb1 hb2 hown hgrow hat hA c0)
    | (refine Tryd.stepLoadNdMid (z := (z, k0)) (.tmp 132) b (off + 0 * 258) rfl rfl rfl HCE.out ?_))
  refine (HKS.out z v1 (p ++ [⟨2, noS, p.length + 1, 0⟩]) N w2 HS2.out HE2.out.1 HZK.out (by have := HC.out; rw [List.length_append, List.length_singleton]; omega)).mono ?_
  rintro e w3 ⟨v3, rfl, hq⟩
  rw [← HQQ.out] at hq
  obtain ⟨a3, cap3, hv3⟩ := own_slice hq.1
  have HE3 := Lib.hid (HE2.out.trans hq)
  have HP3 := Lib.hid (HP2.out.kp hq.2.1 (fun e => HB2.out e))
  have HS3 := Lib.hid (Nat.le_trans HS2.out hq.2.1.size)
  subst hv3
  have hql2 : q.length ≤ 100000 := by omega
  have c0 : w3.cell? ⟨n, 0, none⟩ = some (.int .i64 (k : Int)) := HP3.out.c0
  clear hq c1 HE1 HE2 HZ1 HZ2 HP1 HP2 HB1 HB2 HS1 HS2 HCE HZK
  go_wp2_with (first
    | (refine Tryd.stepBuildI_ka 3 p.length (.tmp 139) rfl rfl rfl ?_)
    | (refine Tryd.stepSliceIn (i := ⟨3, noS, p.length, 0⟩) (.tmp 140) rfl rfl rfl ?_)
    | (refine Tryd.stepAppendIn (v := .slice a3 q.length cap3) (p := q) (i := ⟨3, noS, p.length, 0⟩) (N := N) (.tmp 138) (.tmp 141) w3.heap.size rfl rfl rfl rfl (World.ownsRow.alloc HE3.out.1 _) (heap_new w3 _) hql2 (by have := HS3.out; simp; omega) ?_
       intro v4 w4 hown hgrow hat
       have hE4 := HE3.out.push hown hgrow hat
       obtain ⟨g, cap4, hv4⟩ := own_some hown (by simp)
       rw [List.length_append, List.length_singleton] at hv4
       subst hv4
       obtain ⟨i4, hi4⟩ : ∃ i4, (q ++ [⟨3, noS, p.length, 0⟩])[p.length]? = some i4 := ⟨_, List.getElem?_eq_getElem (by rw [List.length_append]; omega)⟩
       have kc := hE4.1.cell hi4 (j := 258) (by decide) (ienc_b i4)
       have kf := hE4.1.frozen (p.length * 259 + 258)
       have HE4 := Lib.hid hE4
       clear hown hgrow hat hE4 hi4 c0))
  go_ret
  have := HE4.out.putB (f := p.length) (by rw [List.length_append, List.length_singleton]; omega) (q.length + 1)
  exact ⟨_, rfl, this⟩
set_option maxHeartbeats 4000000 in
theorem emit_6 (k : Nat) (hk : k = 6) (kids : List RT) (S : UInt8 → Bool) (hne : kids ≠ []) (HK : ∀ t ∈ kids, EmC t) : EmC (.node k kids S) := by
  intro z1 v p N w hN ho hz hc
  obtain ⟨ak, capk, zs, rfl, -, -, -, -⟩ := hz.kids
  obtain ⟨a, cap, rfl⟩ := own_slice ho
  have e3 : ((k : Int) == 3) = false := by rw [hk]; rfl
  have e1 : ((k : Int) == 1) = false := by rw [hk]; rfl
  have e2 : ((k : Int) == 2) = false := by rw [hk]; rfl
  have e5 : ((k : Int) == 5) = false := by rw [hk]; rfl
  have e4 : ((k : Int) == 4) = false := by rw [hk]; rfl
  have HO := Lib.hid ho
  have HN := Lib.hid hN
  have HZ := Lib.hid hz
  have hkl : 0 < kids.length := by
    cases kids with
    | nil => exact absurd rfl hne
    | cons a r => exact Nat.succ_pos _
  have hpl : p.length ≤ 50000 := by omega
  have hpl2 : p.length ≤ 100000 := by omega
  have HC := Lib.hid (show p.length + (2 + costT kids[0]) + 2 ≤ 50000 by
    have := costsT_take kids 0 hkl
    rw [costT] at hc
    omega)
  have hon : ∀ q, oneP q kids = emitP q kids[0] := fun q => by
    cases kids with
    | nil => exact absurd rfl hne
    | cons a r => rw [oneP]; rfl
  have HQ := Lib.hid (show emitP p (.node k kids S) = putB (emitP (p ++ [⟨2, noS, p.length + 1, 0⟩]) kids[0]) p.length (emitP (p ++ [⟨2, noS, p.length + 1, 0⟩]) kids[0]).length by rw [emitP, if_neg (by omega), if_neg (by omega), if_neg (by omega), if_neg (by omega), if_neg (by omega), hon])
  have HKS := Lib.hid (HK kids[0] (List.getElem_mem hkl))
  rw [HQ.out]
  clear ho hz hc hk hN HK hne hon
  obtain ⟨n, hn⟩ : ∃ n, w.heap.size = n := ⟨_, rfl⟩
  have HNN := Lib.hid hn
  clear hn
  obtain ⟨k0, hk0⟩ : ∃ k0, k0 = kids[0] := ⟨_, rfl⟩
  have HK0 := Lib.hid hk0
  rw [← hk0] at HC HKS HQ ⊢
  clear hk0
  obtain ⟨q, hqq⟩ : ∃ q, q = emitP (p ++ [⟨2, noS, p.length + 1, 0⟩]) k0 := ⟨_, rfl⟩
  have HQQ := Lib.hid hqq
  have hql : p.length + 1 ≤ q.length ∧ q.length ≤ 50000 := by
    rw [hqq]
    have h1 := emitP_len k0 (p ++ [⟨2, noS, p.length + 1, 0⟩])
    rw [List.length_append, List.length_singleton] at h1
    have := HC.out
    omega
  rw [← hqq]
  clear hqq
  go_enter Tryd.func30, Tryd.ntmps30
  go_wp2_with (first
    | (refine Tryd.stepBoxNd (z := (.slice ak kids.length capk, .node k kids S)) (.tmp 1) rfl rfl rfl ?_
       intro W1 p1 s1 k1
       rw [HNN.out] at p1 ⊢
       have c0 : W1.cell? ⟨n, 0, none⟩ = some (.int .i64 (k : Int)) := p1.c0
       have HP1 := Lib.hid p1
       have HE1 := Lib.hid ((EmQ.refl HO.out).beside k1 (fun _ h => h.elim))
       have HZ1 := Lib.hid (show NdOk (fun b => (Value.slice a p.length cap).ownBlock = some b ∨ b = n) W1 (.slice ak kids.length capk) (.node k kids S) from ((HZ.out.new).kp_of k1 (fun _ h => h.elim)).mono (fun b hb => by
         rcases hb with hb | hb
         · exact .inl (.inl hb)
         · exact .inr (by have := HNN.out; omega)))
       have HB1 := Lib.hid (show (Value.slice a p.length cap).ownBlock ≠ some n from fun e => by have := (HO.out.bd e).2; have := HNN.out; omega)
       have HS1 := Lib.hid (show N ≤ W1.heap.size by rw [s1]; have := HN.out; omega)
       clear p1 s1 k1)
    | (refine Tryd.stepBuildI_ka 2 (p.length + 1) (.tmp 125) rfl rfl rfl ?_)
    | (refine Tryd.stepSliceIn (i := ⟨2, noS, p.length + 1, 0⟩) (.tmp 126) rfl rfl rfl ?_)
    | (refine Tryd.stepAppendIn (v := .slice a p.length cap) (p := p) (i := ⟨2, noS, p.length + 1, 0⟩) (N := N) (.tmp 123) (.tmp 127) W1.heap.size rfl rfl rfl rfl (World.ownsRow.alloc HE1.out.1 _) (heap_new W1 _) hpl2 (by have := HS1.out; simp; omega) ?_
       intro v1 w2 hown hgrow hat
       have hA := EmQ.app (w := W1) ((Below.refl _ _).alloc (Nat.le_refl _) _) hown hgrow hat
       have HE2 := Lib.hid (HE1.out.trans hA)
       have HZ2 := Lib.hid (hA.nd HZ1.out)
       have HP2 := Lib.hid (HP1.out.kp hA.2.1 (fun e => HB1.out e))
       have HB2 := Lib.hid (hA.blk HP1.out.lt HB1.out)
       have HS2 := Lib.hid (Nat.le_trans HS1.out hA.2.1.size)
       have c1 : w2.cell? ⟨n, 1, none⟩ = some (.slice ak kids.length capk) := HP2.out.c1
       obtain ⟨z, b, off, hak, hb1, hb2, hzk, hcells⟩ := HZ2.out.kid hkl
       rw [← HK0.out] at hzk hcells
       subst hak
       have HCE := Lib.hid hcells
       have HZK := Lib.hid (show NdOk (fun b => v1.ownBlock = some b ∨ False) w2 z k0 from hzk.mono (fun b hb => by
         rcases hb with h | h
         · exact .inl h
         · exact h.elim))
       clear hzk hcells hb1 hb2 hown hgrow hat hA c0)
    | (refine Tryd.stepLoadNdMid (z := (z, k0)) (.tmp 132) b (off + 0 * 258) rfl rfl rfl HCE.out ?_))
  refine (HKS.out z v1 (p ++ [⟨2, noS, p.length + 1, 0⟩]) N w2 HS2.out HE2.out.1 HZK.out (by have := HC.out; rw [List.length_append, List.length_singleton]; omega)).mono ?_
  rintro e w3 ⟨v3, rfl, hq⟩
  rw [← HQQ.out] at hq
  obtain ⟨a3, cap3, hv3⟩ := own_slice hq.1
  have HE3 := Lib.hid (HE2.out.trans hq)
  have HP3 := Lib.hid (HP2.out.kp hq.2.1 (fun e => HB2.out e))
  have HS3 := Lib.hid (Nat.le_trans HS2.out hq.2.1.size)
  subst hv3
  have hql2 : q.length ≤ 100000 := by omega
  have c0 : w3.cell? ⟨n, 0, none⟩ = some (.int .i64 (k : Int)) := HP3.out.c0
  clear hq c1 HE1 HE2 HZ1 HZ2 HP1 HP2 HB1 HB2 HS1 HS2 HCE HZK
  obtain ⟨g, cap4, hv4⟩ := own_some HE3.out.1 (by omega)
  rw [hv4] at HE3 ⊢
  clear hv4
  obtain ⟨i4, hi4⟩ : ∃ i4, q[p.length]? = some i4 := ⟨_, List.getElem?_eq_getElem (by omega)⟩
  have kc := HE3.out.1.cell hi4 (j := 258) (by decide) (ienc_b i4)
  have kf := HE3.out.1.frozen (p.length * 259 + 258)
  have hlt : p.length < q.length := by omega
  clear hi4
  go_wp2_with fail
  go_ret
  have := HE3.out.putB (f := p.length) (by omega) q.length
  exact ⟨_, rfl, this⟩
end Go.Proofs.YtnnfhcbopchodaaDoor
namespace Go.Proofs.YtnnfhcbopchodaaDoor
open Go Go.RowKit
set_option linter.unusedVariables false
set_option linter.unusedSimpArgs false
set_option maxRecDepth 100000
def ints (l : List Nat) : List Value := l.map fun k : Nat => Value.int .i64 (k : Int)
/-- A row of numbers that is one's own. -/
def IntsO (w : World) (N : Nat) (v : Value) (l : List Nat) : Prop := w.ownsRow N 3 1 v l.length (ints l)
theorem Tryd.infoIt : (Tryd.prog.info? 3).map (fun i => (i.zero, i.size, i.bytes)) = some (some (.int .i64 0), 1, 8) := by kernel_rfl
theorem ints_get {l : List Nat} {i : Nat} (h : i < l.length) : (ints l)[i]? = some (.int .i64 (l[i] : Int)) := by simp [ints, h]
theorem ints_app (l m : List Nat) : ints (l ++ m) = ints l ++ ints m := by simp [ints]
theorem ints_len (l : List Nat) : (ints l).length = l.length := by simp [ints]
theorem Tryd.stepAppendI {ops : Array Oper} {rest : List Oper} {o : Oper} {a : Act} {w : World} {Q : Exit → Act → World → Prop} {v : Value} {l m : List Nat} {N : Nat} (x y : Operand) (g : Nat) (hg : o.guard = none)
    (ho : o.op = .call { callee := .builtin .append, args := #[x, y], argTypes := #[97, 97] }) (hx : a.eval x = v) (hy : a.eval y = .slice (some ⟨g, 0, none⟩) m.length m.length) (hown : IntsO w N v l) (hb : w.heap[g]? = some (.cells (ints m).toArray 3 (0, 0)))
    (hlen : l.length + m.length ≤ 1000000) (hN : N ≤ w.heap.size)
    (h : ∀ v' w', IntsO w' N v' (l ++ m) → w.grownBy w' v.ownBlock → (v'.ownBlock = v.ownBlock ∨ v'.ownBlock = some w.heap.size) → wpList Tryd.prog ops Q rest (a.put o.dst v') w') : wpList Tryd.prog ops Q (o :: rest) a w := by
  obtain ⟨i0, hi, hz0, hz1, hz2⟩ := info_parts Tryd.infoIt
  refine wpList_append_own_at _ hg x y 97 ho N 3 i0 _ 1 8 Tryd.underlying97 hi hz0 hz1 hz2 rfl (by decide) v l.length (ints l) hx hown ⟨g, 0, none⟩ m.length m.length (ints m) hy (by rw [ints_len, Nat.mul_one]) ?_ (fun u hu => by obtain ⟨k, -, rfl⟩ := List.mem_map.1 hu; rfl) (by unfold maxLen; omega) (by omega) hN ?_
  · intro j u hj
    rw [Addr.add_lit, Nat.zero_add, cell_of_row _ _ _ _ _ _ hb, List.getElem?_toArray]
    exact hj
  · intro v' w' ho' hgr _ hat
    refine h v' w' ?_ hgr hat
    unfold IntsO
    rw [List.length_append, ints_app]
    exact ho'
/-- Where alternatives stand: the instructions, the node, the places of the jumps. -/
structure AL (N n : Nat) (v : Value) (w : World) (zk : Value) (t : RT) (q : List In) (v0 vo : Value) (o : List Nat) (wr : World) : Prop where
  e : EmQ N v w q v0 wr
  p : NdB wr n (zk, t)
  nd : NdOk (fun b => v0.ownBlock = some b ∨ (b = n ∨ vo.ownBlock = some b)) wr zk t
  b : v0.ownBlock ≠ some n
  i : IntsO wr (n + 1) vo o
  ob : ∀ b, vo.ownBlock = some b → v0.ownBlock ≠ some b
theorem AL.step {N n : Nat} {v : Value} {w : World} {zk : Value} {t : RT} {q q' : List In} {v0 v1 vo : Value} {o : List Nat} {wr w1 : World} (h : AL N n v w zk t q v0 vo o wr) (k : EmQ N v0 wr q' v1 w1) : AL N n v w zk t q' v1 vo o w1 :=
  ⟨h.e.trans k, h.p.kp k.2.1 (fun e => h.b e), k.nd h.nd, k.blk h.p.lt h.b, own_kp h.i k.2.1 (fun b hb _ hC => h.ob b hb hC), fun b hb => k.blk (own_bd h.i hb).2 (h.ob b hb)⟩
theorem AL.ints {N n : Nat} {v : Value} {w : World} {zk : Value} {t : RT} {q : List In} {v0 vo vo' : Value} {o o' : List Nat} {wr w1 : World} {ob : Obj} (hn : w.heap.size = n) (h : AL N n v w zk t q v0 vo o wr) (ho : IntsO w1 (n + 1) vo' o') (hg : (wr.alloc ob).grownBy w1 vo.ownBlock) (hat : vo'.ownBlock = vo.ownBlock ∨ vo'.ownBlock = some (wr.alloc ob).heap.size) :
    AL N n v w zk t q v0 vo' o' w1 := by
  have k : Kp (fun b => vo.ownBlock = some b) wr w1 := ((Kp.refl (fun _ => False) wr).alloc ob |>.mono (fun _ _ h => h.elim)).trans (Kp.of_grown hg (fun b hb => hb))
  have hbd : ∀ b, vo.ownBlock = some b → n + 1 ≤ b ∧ b < wr.heap.size := fun b hb => own_bd h.i hb
  have hs : (wr.alloc ob).heap.size = wr.heap.size + 1 := by simp
  have hnew : ∀ b, vo'.ownBlock = some b → vo.ownBlock = some b ∨ wr.heap.size ≤ b := fun b hb => by
    rcases hat with e | e
    · exact .inl (by rw [← e]; exact hb)
    · rw [e] at hb
      injection hb with hb
      exact .inr (by omega)
  refine ⟨h.e.beside k (fun b hb => ⟨by have := hbd b hb; omega, h.ob b hb⟩), h.p.kp k (fun e => by have := hbd _ e; omega), ((h.nd.new).kp_of k (fun b hb => .inl (.inr (.inr hb)))).mono (fun b hb => ?_), h.b, ho, fun b hb e => ?_⟩
  · rcases hb with hb | hb | hb
    · exact .inl (.inl hb)
    · exact .inl (.inr (.inl hb))
    · rcases hnew b hb with h1 | h1
      · exact .inl (.inr (.inr h1))
      · exact .inr h1
  · rcases hnew b hb with h1 | h1
    · exact h.ob b h1 e
    · have := (h.e.1.bd e).2; omega
theorem AL.kid {N n : Nat} {v : Value} {w : World} {ak : Option Addr} {nk capk k : Nat} {kids : List RT} {S : UInt8 → Bool} {q : List In} {v0 vo : Value} {o : List Nat} {wr : World} (h : AL N n v w (.slice ak nk capk) (.node k kids S) q v0 vo o wr) {j : Nat} (hj : j < kids.length) :
    ∃ z b off, ak = some ⟨b, off, none⟩ ∧ NdOk (fun b => v0.ownBlock = some b ∨ False) wr z kids[j] ∧ ∀ i u, (nenc (z, kids[j]))[i]? = some u → wr.cell? ⟨b, off + j * 258 + i, none⟩ = some u := by
  obtain ⟨z, b, off, h1, -, -, h2, h3⟩ := h.nd.kid hj
  exact ⟨z, b, off, h1, h2.mono (fun b hb => by
    rcases hb with hb | hb
    · exact .inl hb
    · exact hb.elim), h3⟩
theorem costsT_drop {l : List RT} {j : Nat} (h : j < l.length) : costsT (l.drop j) = 2 + costT l[j] + costsT (l.drop (j + 1)) := by
  rw [List.drop_eq_getElem_cons h, costsT]
theorem patchE_cons {l : List Nat} {i : Nat} (h : i < l.length) (q : List In) (e : Nat) : patchE q (l.drop i) e = patchE (putA q l[i] e) (l.drop (i + 1)) e := by
  rw [List.drop_eq_getElem_cons h, patchE]
theorem kids_le : ∀ l : List RT, l.length ≤ costsT l
  | [] => Nat.zero_le _
  | a :: r => by have := kids_le r; rw [costsT, List.length_cons]; omega
set_option maxHeartbeats 4000000 in
theorem emit_2 (k : Nat) (hk : k = 2) (kids : List RT) (S : UInt8 → Bool) (HK : ∀ t ∈ kids, EmC t) : EmC (.node k kids S) := by
  intro z1 v p N w hN ho hz hc
  obtain ⟨ak, capk, zs, rfl, -, -, -, -⟩ := hz.kids
  obtain ⟨a, cap, rfl⟩ := own_slice ho
  have e3 : ((k : Int) == 3) = false := by rw [hk]; rfl
  have e1 : ((k : Int) == 1) = false := by rw [hk]; rfl
  have e2 : ((k : Int) == 2) = true := by rw [hk]; rfl
  have HO := Lib.hid ho
  have HN := Lib.hid hN
  have HZ := Lib.hid hz
  have hc2 : p.length + costsT kids + 2 ≤ 50000 := by rw [costT] at hc; omega
  have hkl : kids.length ≤ 50000 := by have := kids_le kids; omega
  have HC := Lib.hid hc2
  have HQ := Lib.hid (show emitP p (.node k kids S) = patchE (altP p [] kids).1 (altP p [] kids).2 (altP p [] kids).1.length by rw [emitP, if_neg (by omega), if_neg (by omega), if_pos hk])
  have HKS := Lib.hid HK
  obtain ⟨R, hR⟩ : ∃ R, R = altP p [] kids := ⟨_, rfl⟩
  have HRR := Lib.hid hR
  rw [HQ.out, ← hR]
  clear ho hz hc hc2 hk hN HK hR
  obtain ⟨n, hn⟩ : ∃ n, w.heap.size = n := ⟨_, rfl⟩
  have HNN := Lib.hid hn
  clear hn
  go_enter Tryd.func30, Tryd.ntmps30
  go_wp2_with (first
    | (refine Tryd.stepBoxNd (z := (.slice ak kids.length capk, .node k kids S)) (.tmp 1) rfl rfl rfl ?_
       intro W1 p1 s1 k1
       rw [HNN.out] at p1 ⊢
       have c0 : W1.cell? ⟨n, 0, none⟩ = some (.int .i64 (k : Int)) := p1.c0
       have HAL0 := Lib.hid (show AL N n (.slice a p.length cap) w (.slice ak kids.length capk) (.node k kids S) p (.slice a p.length cap) (.slice none 0 0) [] W1 from
         ⟨(EmQ.refl HO.out).beside k1 (fun _ h => h.elim), p1, ((HZ.out.new).kp_of k1 (fun _ h => h.elim)).mono (fun b hb => by
           rcases hb with hb | hb | hb
           · exact .inl (.inl hb)
           · exact .inr (by have := HNN.out; omega)
           · cases hb), (fun e => by have := (HO.out.bd e).2; have := HNN.out; omega), World.ownsRow_nil _ _ _ _, fun b hb => by cases hb⟩)
       clear p1 s1 k1))
  go_loopw [0, 7, 8] (fun v0 vo i wr => ∃ (j : Nat) (pj : List In) (oj : List Nat), i = .int .i64 j ∧ j ≤ kids.length ∧ Hid (AL N n (.slice a p.length cap) w (.slice ak kids.length capk) (.node k kids S) pj v0 vo oj wr) ∧ Hid (altP pj oj (kids.drop j) = R) ∧ pj.length + costsT (kids.drop j) + 2 ≤ 50000 ∧ oj.length ≤ j ∧ Hid (∀ x ∈ oj, x < pj.length)) (fun _ _ i _ => kids.length - (intOf i).toNat)
  case atStart => exact ⟨0, p, [], rfl, Nat.zero_le _, HAL0.out, by rw [List.drop_zero]; exact HRR.out.symm, by rw [List.drop_zero]; exact HC.out, Nat.le_refl _, fun x hx => by cases hx⟩
  case round =>
    obtain ⟨j, pj, oj, rfl, hj, HA, HV, hcj, hoj, HX⟩ := hrel
    have c1 : wr.cell? ⟨n, 1, none⟩ = some (.slice ak kids.length capk) := HA.out.p.c1
    clear HAL0 HZ c0
    by_cases hlt : j < kids.length
    · obtain ⟨a0, cap0, hv0⟩ := own_slice HA.out.e.1
      subst hv0
      have hcd := costsT_drop hlt
      have hpj : pj.length ≤ 50000 := by omega
      have hpj2 : pj.length ≤ 100000 := by omega
      have hcost : pj.length + costT kids[j] + costsT (kids.drop (j + 1)) + 4 ≤ 50000 := by omega
      have HCO := Lib.hid hcost
      have hdr := List.drop_eq_getElem_cons hlt
      have hv := HV.out
      rw [hdr, altP] at hv
      obtain ⟨kj, hkj⟩ : ∃ kj, kj = kids[j] := ⟨_, rfl⟩
      have HKJ := Lib.hid hkj
      have HKC := Lib.hid (show EmC kj by rw [hkj]; exact HKS.out _ (List.getElem_mem hlt))
      rw [← hkj] at HCO hv
      clear hcd hcost hdr hkj hcj HV
      by_cases hlast : j + 1 < kids.length
      · have g1 : decide ((j : Int) + 1 < (kids.length : Int)) = true := by rw [decide_eq_true_iff]; omega
        rw [if_neg (by rw [List.isEmpty_iff]; intro e; have := congrArg List.length e; rw [List.length_drop] at this; simp at this; omega)] at hv
        obtain ⟨q, hq⟩ : ∃ q, q = emitP (pj ++ [⟨2, noS, pj.length + 1, 0⟩]) kj := ⟨_, rfl⟩
        have hql := emitP_len kj (pj ++ [⟨2, noS, pj.length + 1, 0⟩])
        rw [← hq] at hql hv
        rw [List.length_append, List.length_singleton] at hql
        have hql2 : q.length ≤ 50000 := by have := HCO.out; omega
        have hql3 : pj.length + 1 ≤ q.length := hql.1
        have hql4 : q.length ≤ 100000 := by omega
        have HQL := Lib.hid (show q.length ≤ pj.length + 1 + costT kj from hql.2)
        have HQQ := Lib.hid hq
        have HV := Lib.hid hv
        clear hv hq hql
        go_wp2_with (first
          | (refine Tryd.stepBuildI_ka 2 (pj.length + 1) (.tmp 59) rfl rfl rfl ?_)
          | (refine Tryd.stepSliceIn (i := ⟨2, noS, pj.length + 1, 0⟩) (.tmp 60) rfl rfl rfl ?_)
          | (refine Tryd.stepAppendIn (v := .slice a0 pj.length cap0) (p := pj) (i := ⟨2, noS, pj.length + 1, 0⟩) (N := N) (.tmp 57) (.tmp 61) wr.heap.size rfl rfl rfl rfl (World.ownsRow.alloc HA.out.e.1 _) (heap_new wr _) hpj2 (by have := HA.out.e.2.1.size; have := HN.out; simp; omega) ?_
             intro v1 w2 hown hgrow hat
             have HA2 := Lib.hid (HA.out.step (EmQ.app (w := wr) ((Below.refl _ _).alloc (Nat.le_refl _) _) hown hgrow hat))
             have c2 : w2.cell? ⟨n, 1, none⟩ = some (.slice ak kids.length capk) := HA2.out.p.c1
             obtain ⟨z, b, off, hak, hzk, hcells⟩ := HA2.out.kid hlt
             rw [← HKJ.out] at hzk hcells
             subst hak
             have HCE := Lib.hid hcells
             have HZK := Lib.hid hzk
             clear hzk hcells hown hgrow hat c1)
          | (refine Tryd.stepLoadNdMid (z := (z, kj)) (.tmp 67) b (off + j * 258) rfl rfl rfl HCE.out ?_))
        refine (HKC.out z v1 (pj ++ [⟨2, noS, pj.length + 1, 0⟩]) N w2 (Nat.le_trans HN.out HA2.out.e.2.1.size) HA2.out.e.1 HZK.out (by have := HCO.out; rw [List.length_append, List.length_singleton]; omega)).mono ?_
        rintro e w3 ⟨v3, rfl, hq⟩
        rw [← HQQ.out] at hq
        obtain ⟨a3, cap3, hv3⟩ := own_slice hq.1
        subst hv3
        have HA3 := Lib.hid (HA2.out.step hq)
        have c3 : w3.cell? ⟨n, 1, none⟩ = some (.slice (some ⟨b, off, none⟩) kids.length capk) := HA3.out.p.c1
        have hoj2 : oj.length + 1 ≤ 1000000 := by omega
        clear hq c2 HCE HZK
        go_wp2_with (first
          | (refine Tryd.stepAppendI (v := u7) (l := oj) (m := [q.length]) (N := n + 1) (.tmp 76) (.tmp 79) w3.heap.size rfl rfl rfl rfl (World.ownsRow.alloc HA3.out.i _) (heap_new w3 _) hoj2 (by have := HA3.out.p.lt; simp; omega) ?_
             intro vo4 w4 hown hgrow hat
             have HA4 := Lib.hid (AL.ints HNN.out HA3.out hown hgrow hat)
             clear hown hgrow hat)
          | (refine Tryd.stepBuildI_k 3 rfl rfl ?_)
          | (refine Tryd.stepSliceIn (i := ⟨3, noS, 0, 0⟩) (.tmp 82) rfl rfl rfl ?_)
          | (refine Tryd.stepAppendIn (v := .slice a3 q.length cap3) (p := q) (i := ⟨3, noS, 0, 0⟩) (N := N) (.tmp 81) (.tmp 83) w4.heap.size rfl rfl rfl rfl (World.ownsRow.alloc HA4.out.e.1 _) (heap_new w4 _) hql4 (by have := HA4.out.e.2.1.size; have := HN.out; simp; omega) ?_
             intro v5 w5 hown hgrow hat
             have hA5 := HA4.out.step (EmQ.app (w := w4) ((Below.refl _ _).alloc (Nat.le_refl _) _) hown hgrow hat)
             obtain ⟨g, cap5, hv5⟩ := own_some hown (by simp)
             rw [List.length_append, List.length_singleton] at hv5
             subst hv5
             obtain ⟨i5, hi5⟩ : ∃ i5, (q ++ [⟨3, noS, 0, 0⟩])[pj.length]? = some i5 := ⟨_, List.getElem?_eq_getElem (by rw [List.length_append]; omega)⟩
             have kc := hA5.e.1.cell hi5 (j := 258) (by decide) (ienc_b i5)
             have kf := hA5.e.1.frozen (pj.length * 259 + 258)
             have HA5 := Lib.hid hA5
             clear hown hgrow hat hA5 hi5 c3))
        go_roundw
        case rel =>
          refine ⟨j + 1, _, oj ++ [q.length], by go_num, by omega, HA5.out.step ((EmQ.refl HA5.out.e.1).putB (f := pj.length) (by rw [List.length_append, List.length_singleton]; omega) (q.length + 1)), HV.out, ?_, by rw [List.length_append, List.length_singleton]; omega, fun x hx => ?_⟩
          · rw [putB_len, List.length_append, List.length_singleton]
            have := HCO.out
            have := HQL.out
            omega
          · rw [putB_len, List.length_append, List.length_singleton]
            rcases List.mem_append.1 hx with hx | hx
            · have := HX.out x hx; omega
            · rw [List.mem_singleton.1 hx]; omega
        case measure => simp [intOf]; omega
      · have g1 : decide ((j : Int) + 1 < (kids.length : Int)) = false := by rw [decide_eq_false_iff_not]; omega
        rw [if_pos (by rw [List.isEmpty_iff]; exact List.drop_eq_nil_of_le (by omega))] at hv
        obtain ⟨q, hq⟩ : ∃ q, q = emitP pj kj := ⟨_, rfl⟩
        have hql := emitP_len kj pj
        rw [← hq] at hql hv
        have hql2 : q.length ≤ 50000 := by have := HCO.out; omega
        have hql3 : pj.length ≤ q.length := hql.1
        have HQL := Lib.hid (show q.length ≤ pj.length + costT kj from hql.2)
        have HQQ := Lib.hid hq
        have HV := Lib.hid hv
        clear hv hq hql
        obtain ⟨z, b, off, hak, hzk, hcells⟩ := HA.out.kid hlt
        rw [← HKJ.out] at hzk hcells
        subst hak
        have HCE := Lib.hid hcells
        have HZK := Lib.hid hzk
        clear hzk hcells
        go_wp2_with (first
          | (refine Tryd.stepLoadNdMid (z := (z, kj)) (.tmp 67) b (off + j * 258) rfl rfl rfl HCE.out ?_))
        refine (HKC.out z (.slice a0 pj.length cap0) pj N wr (Nat.le_trans HN.out HA.out.e.2.1.size) HA.out.e.1 HZK.out (by have := HCO.out; omega)).mono ?_
        rintro e w3 ⟨v3, rfl, hq⟩
        rw [← HQQ.out] at hq
        have HA3 := Lib.hid (HA.out.step hq)
        have c3 : w3.cell? ⟨n, 1, none⟩ = some (.slice (some ⟨b, off, none⟩) kids.length capk) := HA3.out.p.c1
        clear hq c1 HCE HZK
        go_wp2_with fail
        go_roundw
        case rel =>
          refine ⟨j + 1, q, oj, by go_num, by omega, HA3.out, HV.out, ?_, by omega, fun x hx => ?_⟩
          · have := HCO.out
            have := HQL.out
            omega
          · have := HX.out x hx; omega
        case measure => simp [intOf]; omega
    · obtain rfl : j = kids.length := by omega
      have hve : R = (pj, oj) := by rw [← HV.out, List.drop_length, altP]
      subst hve
      obtain ⟨ao, co, hvo⟩ := own_slice HA.out.i
      subst hvo
      obtain ⟨a0, cap0, hv0⟩ := own_slice HA.out.e.1
      subst hv0
      have hpj : pj.length ≤ 50000 := by omega
      have hojl : oj.length ≤ 50000 := by omega
      clear HV hcj
      go_wp2_with fail
      go_loopw [10] (fun i wx => ∃ (m : Nat) (q : List In), i = .int .i64 m ∧ m ≤ oj.length ∧ Hid (AL N n (.slice a p.length cap) w (.slice ak kids.length capk) (.node k kids S) q (.slice a0 pj.length cap0) (.slice ao oj.length co) oj wx) ∧ Hid (patchE q (oj.drop m) pj.length = patchE pj oj pj.length) ∧ Hid (q.length = pj.length)) (fun i _ => oj.length - (intOf i).toNat)
      case atStart => exact ⟨0, pj, rfl, Nat.zero_le _, HA.out, by rw [List.drop_zero]; exact rfl, rfl⟩
      case round =>
        obtain ⟨m, q, rfl, hm, HB, HP, HL⟩ := hrel
        by_cases hlt2 : m < oj.length
        · have hom : oj[m] < q.length := by have := HX.out _ (List.getElem_mem hlt2); have := HL.out; omega
          obtain ⟨gi, ci, hgi⟩ := own_some HB.out.i (by omega)
          injection hgi with h1 h2 h3
          subst h1
          have ki : wr.cell? ⟨gi, m, none⟩ = some (.int .i64 (oj[m] : Int)) := by
            have := World.ownsRow.cells HB.out.i (g := gi) rfl m _ (ints_get hlt2)
            rw [Addr.add_lit, Nat.zero_add] at this
            exact this
          obtain ⟨g, cap5, hv5⟩ := own_some HB.out.e.1 (by omega)
          injection hv5 with h4 h5 h6
          subst h4
          obtain ⟨om, hoe⟩ : ∃ om, om = oj[m] := ⟨_, rfl⟩
          rw [← hoe] at hom ki
          have HOM := Lib.hid hoe
          obtain ⟨i5, hi5⟩ : ∃ i5, q[om]? = some i5 := ⟨_, List.getElem?_eq_getElem hom⟩
          have kc := HB.out.e.1.cell hi5 (j := 257) (by decide) (ienc_a i5)
          have kf := HB.out.e.1.frozen (om * 259 + 257)
          have hom2 : om < pj.length := by have := HL.out; omega
          have HOL := Lib.hid hom
          clear hoe hi5 h2 h3 h5 h6 hom
          go_wp2_with fail
          go_roundw
          case rel =>
            refine ⟨m + 1, putA q om pj.length, by go_num, by omega, HB.out.step ((EmQ.refl HB.out.e.1).putA HOL.out pj.length), ?_, ?_⟩
            · have hp := HP.out
              rw [patchE_cons hlt2, ← HOM.out] at hp
              exact hp
            · rw [putA_len]; exact HL.out
          case measure => simp [intOf]; omega
        · obtain rfl : m = oj.length := by omega
          go_wp2_with fail
          go_ret
          refine ⟨_, rfl, ?_⟩
          have := HB.out.e
          have hp := HP.out
          rw [List.drop_length, patchE] at hp
          rw [hp] at this
          exact this
mutual
theorem emit_any : ∀ t : RT, okT t = true → EmC t
  | .node k kids S, ok => by
    unfold okT at ok
    rw [Bool.and_eq_true] at ok
    obtain ⟨ok1, ok2⟩ := ok
    have HK := emits_any kids ok2
    by_cases h3 : k = 3
    · exact emit_3 k h3 kids S
    by_cases h1 : k = 1
    · exact emit_1 k h1 kids S HK
    by_cases h2 : k = 2
    · exact emit_2 k h2 kids S HK
    have hne : kids ≠ [] := by
      rintro rfl
      simp [h1, h2, h3] at ok1
    by_cases h5 : k = 5
    · exact emit_5 k h5 kids S hne HK
    by_cases h4 : k = 4
    · exact emit_4 k h4 kids S hne HK
    by_cases h6 : k = 6
    · exact emit_6 k h6 kids S hne HK
    · simp [h1, h2, h3, h4, h5, h6] at ok1
theorem emits_any : ∀ l : List RT, oksT l = true → ∀ t ∈ l, EmC t
  | [], ok => fun t ht => by cases ht
  | a :: r, ok => fun t ht => by
    unfold oksT at ok
    rw [Bool.and_eq_true] at ok
    have h1 := emit_any a ok.1
    have h2 := emits_any r ok.2
    rcases List.mem_cons.1 ht with h | h
    · rw [h]; exact h1
    · exact h2 t h
end
end Go.Proofs.YtnnfhcbopchodaaDoor
