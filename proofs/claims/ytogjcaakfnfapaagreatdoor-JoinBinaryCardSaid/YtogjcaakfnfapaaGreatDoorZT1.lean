/- The labels of a pair, the reference (printed by gen_jr2.py). Operators of two vectors: the reference's walk (printed by gen_jr4.py). Operators of two vectors: the reference's walk (printed by gen_jr4.py). (Several texts in one file, by merge.py.) -/
import Derived.Test.YtogjcaakfnfapaaGreatDoorZC10
import Derived.Test.YtogjcaakfnfapaaGreatDoorZC16
import Derived.Test.YtogjcaakfnfapaaGreatDoorZC14
import Derived.Test.YtogjcaakfnfapaaGreatDoorZC15
namespace Go.Proofs.YtogjcaakfnfapaaGreatDoor
open Go Go.RowKit
set_option linter.unusedVariables false
set_option linter.unusedSimpArgs false
set_option maxRecDepth 100000
set_option maxHeartbeats 16000000 in
theorem rpair_any (how card : Int) (vn vi va vb : Value) (names incl : List ByteArray) (la lb : List Lb) (w : World) (ha : Sl lenc w va la) (hb : Sl lenc w vb lb) (hn : Sl senc1 w vn names) (hi : Sl senc1 w vi incl)
    (hc : 0 ≤ card ∧ card ≤ 2) (hla : la.length ≤ 1000) (hlb : lb.length ≤ 1000) (hnl : names.length ≤ 100000) :
    Calls Tryz.prog 30 #[.agg #[.int .i64 how, vn, .int .i64 card, vi], va, vb] w fun e w' => ∃ a n c, e = .returned (.slice a n c) ∧ Sl lenc w' (.slice a n c) (pairL card how names incl la lb) ∧ (∀ k, (Value.slice a n c).ownBlock = some k → w.heap.size ≤ k) ∧ Below w.heap.size w w' := by
  have HN := Lib.hid hn
  have HI := Lib.hid hi
  have HA := Lib.hid ha
  have HLB := Lib.hid hb
  have HNL := Lib.hid hnl
  obtain ⟨an, cn, rfl, hlen, -⟩ := hn.strings
  obtain ⟨ai, ci, rfl, hleni, hci⟩ := hi.strings
  have hc2 : ∀ k, k < incl.length → ∃ b off, ai = some ⟨b, off, none⟩ ∧ w.cell? ⟨b, off + k, none⟩ = some (.string (nx incl k)) := fun k hk => by
    obtain ⟨b, off, e, hd⟩ := hci k hk
    exact ⟨b, off, e, by rw [hd k hk, nx_at hk]⟩
  have HCI := Lib.hid hc2
  obtain ⟨aa, ca, rfl, -, -⟩ := ha.len lenc_pos
  obtain ⟨ab, cb, rfl, -, -⟩ := hb.len lenc_pos
  have HZA := Lib.hid hla
  have HZB := Lib.hid hlb
  clear hn hi ha hb hci hc2 hla hlb hnl
  obtain ⟨nn, hnn⟩ : ∃ n, n = names.length := ⟨_, rfl⟩
  rw [← hnn] at HN hlen ⊢
  obtain ⟨ni, hni⟩ : ∃ n, n = incl.length := ⟨_, rfl⟩
  rw [← hni] at HI hleni ⊢
  have HNI := Lib.hid hni
  obtain ⟨na, hna⟩ : ∃ n, n = la.length := ⟨_, rfl⟩
  rw [← hna] at HA ⊢
  obtain ⟨nb, hnb⟩ : ∃ n, n = lb.length := ⟨_, rfl⟩
  rw [← hnb] at HLB ⊢
  clear hnn hni hna hnb
  obtain ⟨w1, hw1⟩ : ∃ w1, w1 = w.alloc (.cells #[.int .i64 how, .slice an nn cn, .int .i64 card, .slice ai ni ci] 26) := ⟨_, rfl⟩
  obtain ⟨mb, hmb⟩ : ∃ b, b = w.heap.size := ⟨_, rfl⟩
  have q0 : w1.cell? ⟨mb, 0, none⟩ = some (.int .i64 how) := by rw [hw1, hmb]; simp
  have q1 : w1.cell? ⟨mb, 1, none⟩ = some (.slice an nn cn) := by rw [hw1, hmb]; simp
  have q2 : w1.cell? ⟨mb, 2, none⟩ = some (.int .i64 card) := by rw [hw1, hmb]; simp
  have q3 : w1.cell? ⟨mb, 3, none⟩ = some (.slice ai ni ci) := by rw [hw1, hmb]; simp
  have Q3 := Lib.hid q3
  have HB1 := Lib.hid (show Below w.heap.size w w1 by rw [hw1]; exact (Below.refl _ _).alloc (Nat.le_refl _) _)
  have HW1 := Lib.hid hw1
  have HMB := Lib.hid hmb
  have hz1 := HB1.out.size
  have hs1 : w1.heap.size = mb + 1 := by rw [hw1, hmb]; simp
  have HS1 := Lib.hid hs1
  have hm1 : mb < w1.heap.size := World.block_lt_of_cell? w1 _ q0
  have hmn : mb ≠ w1.heap.size := by omega
  clear hw1 hmb hs1
  obtain ⟨R, hR⟩ : ∃ R, R = pairL card how names incl la lb := ⟨_, rfl⟩
  rw [← hR]
  by_cases h0 : card = 0
  · subst h0
    rw [pairL, if_pos rfl] at hR
    have HSG := Lib.hid (rsign_S how _ _ la names w1 (HA.out.below HB1.out (Nat.le_refl _)) (HN.out.below HB1.out (Nat.le_refl _)) (by have := HZA.out; omega) HNL.out)
    rw [← hR] at HSG
    clear hR hc
    go_enter Tryz.func30, Tryz.ntmps30
    go_wp2_with fail
    rw [← HW1.out, ← HMB.out]
    refine HSG.out.mono ?_
    rintro e w2 ⟨a, n, c, rfl, hs, ho, hb2⟩
    have HS := Lib.hid hs
    have HO := Lib.hid ho
    have HB2 := Lib.hid (HB1.out.trans (hb2.mono HB1.out.size))
    clear hs ho hb2
    go_wp2_with fail
    go_ret
    exact ⟨a, n, c, rfl, HS.out, fun k hk => Nat.le_trans hz1 (HO.out k hk), HB2.out⟩
  · rcases (show card = 2 ∨ card = 1 by omega) with hcc | hcc
    · subst hcc
      have HMM := Lib.hid HLB.out
      have HOO := Lib.hid HA.out
      have HZM := Lib.hid HZB.out
      have hbs : Below w1.heap.size w1 (w1.alloc (.cells #[.string nmS] 9)) := (Below.refl _ _).alloc (Nat.le_refl _) _
      have HNL := Lib.hid (rdrop_own _ (.slice (some ⟨w1.heap.size, 0, none⟩) 1 1) lb [nmS] _ ((HMM.out.below HB1.out (Nat.le_refl _)).below hbs (Nat.le_refl _)) (sl_one' w1 nmS) (by have := HZM.out; omega))
      have HBS := Lib.hid hbs
      obtain ⟨base, hbase⟩ : ∃ b, b = namelessL lb := ⟨_, rfl⟩
      have HBL := Lib.hid (show base.length ≤ 1000 by rw [hbase]; exact Nat.le_trans (namelessL_len _) HZM.out)
      rw [show pickL [nmS] false lb = base by rw [hbase]; rfl] at HNL
      have HRR := Lib.hid (show R = withsL la incl base by rw [hR, hbase]; rfl)
      unfold nmS at HNL HBS
      rw [HS1.out] at HNL
      clear hR hc hbase hbs
      go_enter Tryz.func30, Tryz.ntmps30
      go_wp2_with fail
      rw [← HW1.out, ← HMB.out]
      refine HNL.out.mono ?_
      rintro e w2 ⟨v2, rfl, ho2, hb2⟩
      have hs2 : Sl lenc w2 v2 base := Sl.own lenc_len (by decide) ho2
      obtain ⟨a2, c2, rfl, -⟩ := id hs2
      have HS2 := Lib.hid hs2
      have HO2 := Lib.hid (fun j hj => by have := (ho2.lt j hj).1; have h1 := HBS.out.size; omega : ∀ j, (Value.slice a2 base.length c2).ownBlock = some j → w.heap.size ≤ j)
      have HB2 := Lib.hid (HBS.out.trans (hb2.mono HBS.out.size))
      generalize base.length = n2 at HS2 HO2 ⊢
      clear hs2 ho2 hb2
      go_wp2_with fail
      go_loopw [9, 10] (fun v i wr => ∃ (k : Nat) (a : Option Addr) (n c : Nat), k ≤ ni ∧ v = .slice a n c ∧ i = .int .i64 k ∧ Hid (Sl lenc wr (.slice a n c) (withsL la (incl.take k) base)) ∧ Hid (∀ j, (Value.slice a n c).ownBlock = some j → w.heap.size ≤ j) ∧ Hid (Below w1.heap.size w1 wr)) (fun _ i _ => ni - (intOf i).toNat)
      case atStart => exact ⟨0, a2, n2, c2, Nat.zero_le _, rfl, rfl, HS2.out, HO2.out, HB2.out⟩
      case round =>
        obtain ⟨k, a, n, c, hk, rfl, rfl, HS, HO, HB⟩ := hrel
        have hBz := HB.out.size
        have hbw := HB1.out.trans (HB.out.mono HB1.out.size)
        have hzw := hbw.size
        have q3 := cell_below HB.out (Nat.le_refl _) Q3.out
        have h00 : (0 : Int) ≤ (k : Int) := by omega
        by_cases hlt : k < ni
        · have hltz : (k : Int) < (ni : Int) := by omega
          obtain ⟨b, off, rfl, q⟩ := HCI.out k (by have := HNI.out; omega)
          have q0 := cell_below hbw (Nat.le_refl _) q
          obtain ⟨x, hx⟩ : ∃ x, x = nx incl k := ⟨_, rfl⟩
          rw [← hx] at q0
          have HX := Lib.hid (show withsL la (incl.take (k + 1)) base = withL (withsL la (incl.take k) base) x (getL x la) by
            rw [hx, nx_at (by have := HNI.out; omega)]
            exact withs_take _ _ _ _ _)
          have hLn : (withsL la (incl.take k) base).length ≤ 1000 := withs_len _ (by decide) _ _ HBL.out
          obtain ⟨L, hL⟩ : ∃ L, L = withsL la (incl.take k) base := ⟨_, rfl⟩
          rw [← hL] at HS HX hLn
          have HGET := Lib.hid (fun w' (hb : Below wr.heap.size wr w') => rget_any _ la x w' ((HOO.out.below hbw (Nat.le_refl _)).below hb (Nat.le_refl _)))
          obtain ⟨y, hy⟩ : ∃ y, y = getL x la := ⟨_, rfl⟩
          simp only [← hy] at HGET
          rw [← hy] at HX
          have HW := Lib.hid (fun w' (hb : Below wr.heap.size wr w') => Fr.rwith_fresh _ L x y w' (HS.out.below hb (Nat.le_refl _)) (by omega))
          have HBW := Lib.hid hbw
          clear q hx hL hy hbw
          go_wp2_with fail
          have hbA : Below wr.heap.size wr wr := Below.refl _ _
          have hsA := hbA.size
          go_region_held3 (fun w' => w'.cell? ⟨mb, 3, none⟩ = some (.slice (some ⟨b, off, none⟩) ni ci) ∧ w'.cell? ⟨b, off + k, none⟩ = some (.string x))
            (exact ⟨cell_below (B := wr.heap.size) (by go_grown) (Nat.le_refl _) q3, cell_below (B := wr.heap.size) (by go_grown) (Nat.le_refl _) q0⟩)
            (first
              | (go_at_call 62
                 refine (HGET.out _ (by go_grown)).mono ?_
                 rintro e w3 ⟨rfl, rfl⟩)
              | (go_at_call 61
                 refine (HW.out _ (by go_grown)).mono ?_
                 rintro e w4 ⟨v4, rfl, hs4, hb4, ho4⟩
                 have ho4 : ∀ q, v4.ownBlock = some q → v4 = .slice a n c ∨ wr.heap.size ≤ q := fun q hq => (ho4 q hq).imp id (fun h => Nat.le_trans (show Below wr.heap.size wr _ by go_grown).size h)
                 have hbA : Below wr.heap.size wr w4 := Below.trans (by go_grown) (hb4.mono (by first | exact Nat.le_refl _ | (simp; done) | (simp; omega)))))
          obtain ⟨a4, c4, rfl, -, -⟩ := hs4.len lenc_pos
          have HS4 := Lib.hid (show Sl lenc w4 (.slice a4 _ c4) (withsL la (incl.take (k + 1)) base) by rw [HX.out]; exact hs4)
          have HO4 := Lib.hid (fun j hj => by
            rcases ho4 j hj with h | h
            · exact HO.out j (by rw [← h]; exact hj)
            · omega : ∀ j, (Value.slice a4 (withL L x y).length c4).ownBlock = some j → w.heap.size ≤ j)
          have HB4 := Lib.hid (HB.out.trans (hbA.mono hBz))
          generalize (withL L x y).length = n4 at HS4 HO4 ⊢
          clear hs4 hb4 ho4 hbA hsA
          go_wp2_with fail
          go_roundw
          case rel => exact ⟨k + 1, a4, n4, c4, by omega, rfl, by go_num, HS4.out, HO4.out, HB4.out⟩
          case measure => simp [intOf]; omega
        · have hltz : ¬ (k : Int) < (ni : Int) := by omega
          obtain rfl : k = ni := by omega
          have HSE := Lib.hid (show Sl lenc wr (.slice a n c) R by
            have h1 := HS.out
            rw [List.take_of_length_le (by have := HNI.out; omega)] at h1
            rw [HRR.out]; exact h1)
          have HBW := Lib.hid hbw
          clear hbw
          go_wp2_with fail
          go_ret
          exact ⟨a, n, c, rfl, HSE.out, HO.out, HBW.out⟩
    · subst hcc
      have HMM := Lib.hid HA.out
      have HOO := Lib.hid HLB.out
      have HZM := Lib.hid HZA.out
      have hbs : Below w1.heap.size w1 (w1.alloc (.cells #[.string nmS] 9)) := (Below.refl _ _).alloc (Nat.le_refl _) _
      have HNL := Lib.hid (rdrop_own _ (.slice (some ⟨w1.heap.size, 0, none⟩) 1 1) la [nmS] _ ((HMM.out.below HB1.out (Nat.le_refl _)).below hbs (Nat.le_refl _)) (sl_one' w1 nmS) (by have := HZM.out; omega))
      have HBS := Lib.hid hbs
      obtain ⟨base, hbase⟩ : ∃ b, b = namelessL la := ⟨_, rfl⟩
      have HBL := Lib.hid (show base.length ≤ 1000 by rw [hbase]; exact Nat.le_trans (namelessL_len _) HZM.out)
      rw [show pickL [nmS] false la = base by rw [hbase]; rfl] at HNL
      have HRR := Lib.hid (show R = withsL lb incl base by rw [hR, hbase]; rfl)
      unfold nmS at HNL HBS
      rw [HS1.out] at HNL
      clear hR hc hbase hbs
      go_enter Tryz.func30, Tryz.ntmps30
      go_wp2_with fail
      rw [← HW1.out, ← HMB.out]
      refine HNL.out.mono ?_
      rintro e w2 ⟨v2, rfl, ho2, hb2⟩
      have hs2 : Sl lenc w2 v2 base := Sl.own lenc_len (by decide) ho2
      obtain ⟨a2, c2, rfl, -⟩ := id hs2
      have HS2 := Lib.hid hs2
      have HO2 := Lib.hid (fun j hj => by have := (ho2.lt j hj).1; have h1 := HBS.out.size; omega : ∀ j, (Value.slice a2 base.length c2).ownBlock = some j → w.heap.size ≤ j)
      have HB2 := Lib.hid (HBS.out.trans (hb2.mono HBS.out.size))
      generalize base.length = n2 at HS2 HO2 ⊢
      clear hs2 ho2 hb2
      go_wp2_with fail
      go_loopw [9, 10] (fun v i wr => ∃ (k : Nat) (a : Option Addr) (n c : Nat), k ≤ ni ∧ v = .slice a n c ∧ i = .int .i64 k ∧ Hid (Sl lenc wr (.slice a n c) (withsL lb (incl.take k) base)) ∧ Hid (∀ j, (Value.slice a n c).ownBlock = some j → w.heap.size ≤ j) ∧ Hid (Below w1.heap.size w1 wr)) (fun _ i _ => ni - (intOf i).toNat)
      case atStart => exact ⟨0, a2, n2, c2, Nat.zero_le _, rfl, rfl, HS2.out, HO2.out, HB2.out⟩
      case round =>
        obtain ⟨k, a, n, c, hk, rfl, rfl, HS, HO, HB⟩ := hrel
        have hBz := HB.out.size
        have hbw := HB1.out.trans (HB.out.mono HB1.out.size)
        have hzw := hbw.size
        have q3 := cell_below HB.out (Nat.le_refl _) Q3.out
        have h00 : (0 : Int) ≤ (k : Int) := by omega
        by_cases hlt : k < ni
        · have hltz : (k : Int) < (ni : Int) := by omega
          obtain ⟨b, off, rfl, q⟩ := HCI.out k (by have := HNI.out; omega)
          have q0 := cell_below hbw (Nat.le_refl _) q
          obtain ⟨x, hx⟩ : ∃ x, x = nx incl k := ⟨_, rfl⟩
          rw [← hx] at q0
          have HX := Lib.hid (show withsL lb (incl.take (k + 1)) base = withL (withsL lb (incl.take k) base) x (getL x lb) by
            rw [hx, nx_at (by have := HNI.out; omega)]
            exact withs_take _ _ _ _ _)
          have hLn : (withsL lb (incl.take k) base).length ≤ 1000 := withs_len _ (by decide) _ _ HBL.out
          obtain ⟨L, hL⟩ : ∃ L, L = withsL lb (incl.take k) base := ⟨_, rfl⟩
          rw [← hL] at HS HX hLn
          have HGET := Lib.hid (fun w' (hb : Below wr.heap.size wr w') => rget_any _ lb x w' ((HOO.out.below hbw (Nat.le_refl _)).below hb (Nat.le_refl _)))
          obtain ⟨y, hy⟩ : ∃ y, y = getL x lb := ⟨_, rfl⟩
          simp only [← hy] at HGET
          rw [← hy] at HX
          have HW := Lib.hid (fun w' (hb : Below wr.heap.size wr w') => Fr.rwith_fresh _ L x y w' (HS.out.below hb (Nat.le_refl _)) (by omega))
          have HBW := Lib.hid hbw
          clear q hx hL hy hbw
          go_wp2_with fail
          have hbA : Below wr.heap.size wr wr := Below.refl _ _
          have hsA := hbA.size
          go_region_held3 (fun w' => w'.cell? ⟨mb, 3, none⟩ = some (.slice (some ⟨b, off, none⟩) ni ci) ∧ w'.cell? ⟨b, off + k, none⟩ = some (.string x))
            (exact ⟨cell_below (B := wr.heap.size) (by go_grown) (Nat.le_refl _) q3, cell_below (B := wr.heap.size) (by go_grown) (Nat.le_refl _) q0⟩)
            (first
              | (go_at_call 62
                 refine (HGET.out _ (by go_grown)).mono ?_
                 rintro e w3 ⟨rfl, rfl⟩)
              | (go_at_call 61
                 refine (HW.out _ (by go_grown)).mono ?_
                 rintro e w4 ⟨v4, rfl, hs4, hb4, ho4⟩
                 have ho4 : ∀ q, v4.ownBlock = some q → v4 = .slice a n c ∨ wr.heap.size ≤ q := fun q hq => (ho4 q hq).imp id (fun h => Nat.le_trans (show Below wr.heap.size wr _ by go_grown).size h)
                 have hbA : Below wr.heap.size wr w4 := Below.trans (by go_grown) (hb4.mono (by first | exact Nat.le_refl _ | (simp; done) | (simp; omega)))))
          obtain ⟨a4, c4, rfl, -, -⟩ := hs4.len lenc_pos
          have HS4 := Lib.hid (show Sl lenc w4 (.slice a4 _ c4) (withsL lb (incl.take (k + 1)) base) by rw [HX.out]; exact hs4)
          have HO4 := Lib.hid (fun j hj => by
            rcases ho4 j hj with h | h
            · exact HO.out j (by rw [← h]; exact hj)
            · omega : ∀ j, (Value.slice a4 (withL L x y).length c4).ownBlock = some j → w.heap.size ≤ j)
          have HB4 := Lib.hid (HB.out.trans (hbA.mono hBz))
          generalize (withL L x y).length = n4 at HS4 HO4 ⊢
          clear hs4 hb4 ho4 hbA hsA
          go_wp2_with fail
          go_roundw
          case rel => exact ⟨k + 1, a4, n4, c4, by omega, rfl, by go_num, HS4.out, HO4.out, HB4.out⟩
          case measure => simp [intOf]; omega
        · have hltz : ¬ (k : Int) < (ni : Int) := by omega
          obtain rfl : k = ni := by omega
          have HSE := Lib.hid (show Sl lenc wr (.slice a n c) R by
            have h1 := HS.out
            rw [List.take_of_length_le (by have := HNI.out; omega)] at h1
            rw [HRR.out]; exact h1)
          have HBW := Lib.hid hbw
          clear hbw
          go_wp2_with fail
          go_ret
          exact ⟨a, n, c, rfl, HSE.out, HO.out, HBW.out⟩
end Go.Proofs.YtogjcaakfnfapaaGreatDoor
namespace Go.Proofs.YtogjcaakfnfapaaGreatDoor
open Go Go.RowKit
set_option linter.unusedVariables false
set_option linter.unusedSimpArgs false
set_option maxRecDepth 100000
/-- What one point of the second vector gives. -/
def stepP (op card how : Int) (names incl : List ByteArray) (flag : Bool) (p q : Pt) : List Pt := if sgP how names q = sgP how names p then pairP op card how names incl flag p q else []
theorem stepP_len (op card how : Int) (names incl : List ByteArray) (flag : Bool) (p q : Pt) : (stepP op card how names incl flag p q).length ≤ 1 := by
  unfold stepP; split
  · exact pairP_len op card how names incl flag p q
  · simp
theorem row_step (op card how : Int) (names incl : List ByteArray) (flag : Bool) (p : Pt) : ∀ qs : List Pt, qs.flatMap (stepP op card how names incl flag p) = rowP op card how names incl flag qs p
  | [] => rfl
  | q :: qs => by
    have ih := row_step op card how names incl flag p qs
    unfold rowP membG at ih ⊢
    rw [List.flatMap_cons, ih, List.filter_cons]
    unfold stepP
    by_cases h : sgP how names q = sgP how names p
    · rw [if_pos h, if_pos (decide_eq_true h), List.flatMap_cons]
    · rw [if_neg h, if_neg (by simpa using h)]; rfl
theorem step_yes {op card how : Int} {names incl : List ByteArray} {flag : Bool} {p q : Pt} (h : sgP how names q = sgP how names p) : stepP op card how names incl flag p q = pairP op card how names incl flag p q := if_pos h
theorem step_no {op card how : Int} {names incl : List ByteArray} {flag : Bool} {p q : Pt} (h : sgP how names q ≠ sgP how names p) : stepP op card how names incl flag p q = [] := if_neg h
end Go.Proofs.YtogjcaakfnfapaaGreatDoor
namespace Go.Proofs.YtogjcaakfnfapaaGreatDoor
open Go Go.RowKit
set_option linter.unusedVariables false
set_option linter.unusedSimpArgs false
set_option maxRecDepth 100000
set_option maxHeartbeats 64000000 in
theorem rbin_c0 (op card how : Int) (flag : Bool) (vn vi va vb : Value) (names incl : List ByteArray) (ps qs : List Pt) (w : World) (hva : VS w va ps) (hvb : VS w vb qs) (hn : Sl senc1 w vn names) (hii : Sl senc1 w vi incl)
    (hnl : names.length ≤ 100000) (hpa : ∀ p ∈ ps, PtOk p) (hpb : ∀ p ∈ qs, PtOk p) (hla : ps.length ≤ 300) (hlb : qs.length ≤ 300) (hcd : card = 0) :
    Calls Tryz.prog 10 #[.int .i64 op, .agg #[.int .i64 how, vn, .int .i64 card, vi], .bool flag, va, vb] w fun e w' => Below w.heap.size w w' ∧ BinR op card how names incl flag ps qs e w' := by
  obtain ⟨i0, hi, hz0, hz1, hz2⟩ := info_parts Tryz.infoPt
  obtain ⟨zsa, hza, hsa, hala⟩ := hva.zpts
  obtain ⟨zsb, hzb, hsb, halb⟩ := hvb.zpts
  have HZA := Lib.hid hza
  have HZB := Lib.hid hzb
  have HLA := Lib.hid (show zsa.length = ps.length from by rw [← hza]; simp)
  have HLB := Lib.hid (show zsb.length = qs.length from by rw [← hzb]; simp)
  have HALA := Lib.hid hala
  have HALB := Lib.hid halb
  have HSN := Lib.hid hn
  have HSI := Lib.hid hii
  have HNL := Lib.hid hnl
  have HPA1 := Lib.hid (fun p (h : p ∈ ps) => (show p.1.length ≤ 1000 from (hpa p h).1))
  have HPB1 := Lib.hid (fun p (h : p ∈ qs) => (show p.1.length ≤ 1000 from (hpb p h).1))
  have HCK := Lib.hid (fun w' (hb : Below w.heap.size w w') => rmcheck_any how card vn vi names incl w' (hn.below hb (Nat.le_refl _)) (hii.below hb (Nat.le_refl _)))
  have HTWA := Lib.hid (fun w' (hb : Below w.heap.size w w') => rtwice_any how va vn names ps w' (hva.below hb (Nat.le_refl _)) (hn.below hb (Nat.le_refl _)) HPA1.out hnl)
  have HTWB := Lib.hid (fun w' (hb : Below w.heap.size w w') => rtwice_any how vb vn names qs w' (hvb.below hb (Nat.le_refl _)) (hn.below hb (Nat.le_refl _)) HPB1.out hnl)
  obtain ⟨t1, ht1⟩ : ∃ b, b = twiceB (sgP how names) ps := ⟨_, rfl⟩
  obtain ⟨t2, ht2⟩ : ∃ b, b = twiceB (sgP how names) qs := ⟨_, rfl⟩
  simp only [← ht1] at HTWA
  simp only [← ht2] at HTWB
  have HT1 := Lib.hid ht1
  have HT2 := Lib.hid ht2
  obtain ⟨an, cn, rfl, hlen, -⟩ := hn.strings
  obtain ⟨ai, ci, rfl, hleni, -⟩ := hii.strings
  obtain ⟨aa, ca, rfl, hlva, -, hca⟩ := hsa.split zenc_len
  obtain ⟨ab, cb, rfl, hlvb, -, hcb⟩ := hsb.split zenc_len
  have HCA := Lib.hid hca
  have HCB := Lib.hid hcb
  clear hva hvb hn hii hnl hpa hpb hza hzb hsa hsb hala halb hca hcb ht1 ht2
  obtain ⟨nn, hnn⟩ : ∃ n, n = names.length := ⟨_, rfl⟩
  rw [← hnn] at HCK HTWA HTWB HSN hlen ⊢
  obtain ⟨ni, hni⟩ : ∃ n, n = incl.length := ⟨_, rfl⟩
  rw [← hni] at HCK HSI hleni ⊢
  clear hnn hni
  obtain ⟨NA, hNA⟩ : ∃ n, n = zsa.length := ⟨_, rfl⟩
  rw [← hNA] at HTWA HLA hlva ⊢
  have HNA := Lib.hid hNA
  obtain ⟨NB, hNB⟩ : ∃ n, n = zsb.length := ⟨_, rfl⟩
  rw [← hNB] at HTWB HLB hlvb ⊢
  have HNB := Lib.hid hNB
  have hna3 : NA ≤ 300 := by rw [HLA.out]; exact hla
  have hnb3 : NB ≤ 300 := by rw [HLB.out]; exact hlb
  have HPA3 := Lib.hid hla
  have HPB3 := Lib.hid hlb
  clear hNA hNB hla hlb
  obtain ⟨w1, hw1⟩ : ∃ w1, w1 = w.alloc (.cells #[.int .i64 how, .slice an nn cn, .int .i64 card, .slice ai ni ci] 26) := ⟨_, rfl⟩
  obtain ⟨mb, hmb⟩ : ∃ b, b = w.heap.size := ⟨_, rfl⟩
  have Q0 := Lib.hid (show w1.cell? ⟨mb, 0, none⟩ = some (.int .i64 how) by rw [hw1, hmb]; simp)
  have Q1 := Lib.hid (show w1.cell? ⟨mb, 1, none⟩ = some (.slice an nn cn) by rw [hw1, hmb]; simp)
  have Q2 := Lib.hid (show w1.cell? ⟨mb, 2, none⟩ = some (.int .i64 card) by rw [hw1, hmb]; simp)
  have Q3 := Lib.hid (show w1.cell? ⟨mb, 3, none⟩ = some (.slice ai ni ci) by rw [hw1, hmb]; simp)
  have HB1 := Lib.hid (show Below w.heap.size w w1 by rw [hw1]; exact (Below.refl _ _).alloc (Nat.le_refl _) _)
  have HW1 := Lib.hid hw1
  have HMB := Lib.hid hmb
  clear hw1 hmb
  by_cases h1 : op < 1
  · go_enter Tryz.func10, Tryz.ntmps10
    go_wp2_with fail
    go_ret2
    exact ⟨(Below.refl _ _).alloc (Nat.le_refl _) _, .inl ⟨.inl h1, rfl⟩⟩
  · have h1' : 1 ≤ op := by omega
    by_cases h2 : 10 < op
    · clear h1
      go_enter Tryz.func10, Tryz.ntmps10
      go_wp2_with fail
      go_ret2
      exact ⟨(Below.refl _ _).alloc (Nat.le_refl _) _, .inl ⟨.inr (.inl h2), rfl⟩⟩
    · have h2' : op ≤ 10 := by omega
      have b1 : decide (op < 1) = false := decide_eq_false h1
      have b2 : decide (10 < op) = false := decide_eq_false h2
      have HOPK := Lib.hid (show opOk op = true by unfold opOk; rw [decide_eq_true h1', decide_eq_true h2']; rfl)
      clear h1 h2
      obtain ⟨ck, hck⟩ : ∃ c, c = mchkL how names card incl := ⟨_, rfl⟩
      rw [← hck] at HCK
      by_cases hc0 : ck = 0
      · subst hc0
        have HOK3 := Lib.hid (show 1 ≤ op ∧ op ≤ 10 ∧ mchkL how names card incl = 0 from ⟨h1', h2', hck.symm⟩)
        have hcc := mchk_le hck.symm
        clear hck
        · subst hcd
          go_enter Tryz.func10, Tryz.ntmps10
          go_wp2_with fail
          rw [← HW1.out, ← HMB.out]
          refine (HCK.out _ HB1.out).mono ?_
          rintro e w2 ⟨rfl, hb2⟩
          have g0 := cell_below hb2 (Nat.le_refl _) Q0.out
          have g1 := cell_below hb2 (Nat.le_refl _) Q1.out
          have g2 := cell_below hb2 (Nat.le_refl _) Q2.out
          have g3 := cell_below hb2 (Nat.le_refl _) Q3.out
          have HB2 := Lib.hid (HB1.out.trans (hb2.mono HB1.out.size))
          clear hb2 HCK
          go_wp2_with fail
          refine (HTWA.out _ HB2.out).mono ?_
          rintro e w3 ⟨rfl, hb3⟩
          have g0 := cell_below hb3 (Nat.le_refl _) g0
          have g1 := cell_below hb3 (Nat.le_refl _) g1
          have g2 := cell_below hb3 (Nat.le_refl _) g2
          have g3 := cell_below hb3 (Nat.le_refl _) g3
          have HB3 := Lib.hid (HB2.out.trans (hb3.mono HB2.out.size))
          clear hb3
          cases t1 with
          | true =>
            go_wp2_with fail
            go_ret2
            exact ⟨HB3.out, .inr (.inl ⟨HOK3.out, .inl ⟨by decide, HT1.out.symm⟩, rfl⟩)⟩
          | false =>
            go_wp2_with fail
            refine (HTWB.out _ HB3.out).mono ?_
            rintro e w4 ⟨rfl, hb3⟩
            have g0 := cell_below hb3 (Nat.le_refl _) g0
            have g1 := cell_below hb3 (Nat.le_refl _) g1
            have g2 := cell_below hb3 (Nat.le_refl _) g2
            have g3 := cell_below hb3 (Nat.le_refl _) g3
            have HB4 := Lib.hid (HB3.out.trans (hb3.mono HB3.out.size))
            clear hb3
            cases t2 with
            | true =>
              go_wp2_with fail
              go_ret2
              exact ⟨HB4.out, .inr (.inl ⟨HOK3.out, .inr ⟨by decide, HT2.out.symm⟩, rfl⟩)⟩
            | false =>
              have GW0 := Lib.hid g0
              have GW1 := Lib.hid g1
              have GW2 := Lib.hid g2
              have GW3 := Lib.hid g3
              have HNT := Lib.hid (show ¬ (((0 : Int) ≠ 1 ∧ twiceB (sgP how names) ps = true) ∨ ((0 : Int) ≠ 2 ∧ twiceB (sgP how names) qs = true)) from by rw [← HT1.out, ← HT2.out]; simp)
              go_wp2_with fail
              clear g0 g1 g2 g3
              go_loopw [12, 13] (fun out i wr => ∃ (j : Nat), j ≤ NA ∧ i = .int .i64 j ∧ Hid (OV wr w4.heap.size out ((ps.take j).flatMap (rowP op 0 how names incl flag qs))) ∧ Hid (Below w4.heap.size w4 wr)) (fun _ i _ => NA - (intOf i).toNat)
              case atStart => exact ⟨0, Nat.zero_le _, rfl, OV.nil _ _, Below.refl _ _⟩
              case round =>
                obtain ⟨j, hj, rfl, HO, HB⟩ := hrel
                obtain ⟨wo, rfl⟩ : ∃ wo, wo = wr := ⟨_, rfl⟩
                have hBz := HB.out.size
                have h00 : (0 : Int) ≤ (j : Int) := by omega
                by_cases hlt : j < NA
                · have hltz : (j : Int) < (NA : Int) := by omega
                  have hjz : j < zsa.length := by have := HNA.out; omega
                  obtain ⟨b, off, rfl, hd⟩ := HCA.out j hjz
                  obtain ⟨z, hzj⟩ : ∃ z, z = zsa[j] := ⟨_, rfl⟩
                  have hzm : z ∈ zsa := by rw [hzj]; exact List.getElem_mem hjz
                  rw [← hzj] at hd
                  have hslz := HALA.out z hzm
                  have hjp : j < ps.length := by have := HLA.out; omega
                  have hpj : ps[j] = z.2 := by
                    rw [hzj]
                    have h1 := HZA.out
                    subst h1
                    rw [List.getElem_map]
                  have hgl : z.2.1.length ≤ 1000 := HPA1.out z.2 (by rw [← hpj]; exact List.getElem_mem _)
                  obtain ⟨lv, zl, zf⟩ := z
                  have q0 : w.cell? ⟨b, off + j * 2, none⟩ = some lv := hd 0 _ rfl
                  have q1 : w.cell? ⟨b, off + j * 2 + 1, none⟩ = some (.float .f64 zf) := hd 1 _ rfl
                  obtain ⟨a2, n2, c2, rfl⟩ : ∃ a2 n2 c2, lv = .slice a2 n2 c2 := by
                    obtain ⟨a2, c2, e, -⟩ := hslz
                    exact ⟨a2, _, c2, e⟩
                  have A0 := Lib.hid q0
                  have A1 := Lib.hid q1
                  have HLZ := Lib.hid hslz
                  have HZL := Lib.hid hgl
                  have HTK := Lib.hid (flat_take (rowP op 0 how names incl flag qs) ps j (zl, zf) hjp hpj)
                  obtain ⟨pre, hpre⟩ : ∃ l, l = (ps.take j).flatMap (rowP op 0 how names incl flag qs) := ⟨_, rfl⟩
                  have hpl : pre.length ≤ 90000 := by
                    rw [hpre]
                    have h1 := flat_le (rowP op 0 how names incl flag qs) 300 (fun p => rowP_len op 0 how names incl flag p HPB3.out) (ps.take j)
                    have h2 : (ps.take j).length ≤ 300 := by rw [List.length_take]; omega
                    have h3 := Nat.mul_le_mul_right 300 h2
                    omega
                  rw [← hpre] at HO HTK
                  clear hd hzj hzm hslz hjp hpj hgl q0 q1 hpre
                  go_wp2_with fail
                  go_loopw [12, 14] (fun out i wr => ∃ (k : Nat), k ≤ NB ∧ i = .int .i64 k ∧ Hid (OV wr w4.heap.size out (pre ++ (qs.take k).flatMap (stepP op 0 how names incl flag (zl, zf)))) ∧ Hid (Below w4.heap.size w4 wr)) (fun _ i _ => NB - (intOf i).toNat)
                  case atStart => exact ⟨0, Nat.zero_le _, rfl, (show OV wo w4.heap.size u12 (pre ++ (qs.take 0).flatMap (stepP op 0 how names incl flag (zl, zf))) by simpa using HO.out), HB.out⟩
                  case round =>
                    obtain ⟨k, hk, rfl, HQ, HK⟩ := hrel
                    have hKz := HK.out.size
                    have h02 : (0 : Int) ≤ (k : Int) := by omega
                    by_cases hlt2 : k < NB
                    · have hltz2 : (k : Int) < (NB : Int) := by omega
                      have hkz : k < zsb.length := by have := HNB.out; omega
                      obtain ⟨bf, off2, rfl, hd⟩ := HCB.out k hkz
                      have hbw : Below w.heap.size w wr := HB4.out.trans (HK.out.mono HB4.out.size)
                      obtain ⟨z, hzj⟩ : ∃ z, z = zsb[k] := ⟨_, rfl⟩
                      have hzm : z ∈ zsb := by rw [hzj]; exact List.getElem_mem hkz
                      rw [← hzj] at hd
                      have hslz := HALB.out z hzm
                      have hkp : k < qs.length := by have := HLB.out; omega
                      have hpk : qs[k] = z.2 := by
                        rw [hzj]
                        have h1 := HZB.out
                        subst h1
                        rw [List.getElem_map]
                      have hgl : z.2.1.length ≤ 1000 := HPB1.out z.2 (by rw [← hpk]; exact List.getElem_mem _)
                      have HTF := Lib.hid (flat_take (stepP op 0 how names incl flag (zl, zf)) qs k z.2 hkp hpk)
                      obtain ⟨lq, ql, qf⟩ := z
                      have p0 := cell_below hbw (Nat.le_refl _) A0.out
                      have p1 := cell_below hbw (Nat.le_refl _) A1.out
                      have e0 : wr.cell? ⟨bf, off2 + k * 2, none⟩ = some lq := cell_below hbw (Nat.le_refl _) (hd 0 _ rfl)
                      have e1 : wr.cell? ⟨bf, off2 + k * 2 + 1, none⟩ = some (.float .f64 qf) := cell_below hbw (Nat.le_refl _) (hd 1 _ rfl)
                      obtain ⟨a3, n3, c3, rfl⟩ : ∃ a3 n3 c3, lq = .slice a3 n3 c3 := by
                        obtain ⟨a3, c3, e, -⟩ := hslz
                        exact ⟨a3, _, c3, e⟩
                      have m0 := cell_below HK.out (Nat.le_refl _) GW0.out
                      have m1 := cell_below HK.out (Nat.le_refl _) GW1.out
                      have m2 := cell_below HK.out (Nat.le_refl _) GW2.out
                      have m3 := cell_below HK.out (Nat.le_refl _) GW3.out
                      have HSI2 := Lib.hid (fun w' (hb : Below wr.heap.size wr w') => rsign_S how (.slice a2 n2 c2) (.slice an nn cn) zl names w' ((HLZ.out.below hbw (Nat.le_refl _)).below hb (Nat.le_refl _)) ((HSN.out.below hbw (Nat.le_refl _)).below hb (Nat.le_refl _)) (by have := HZL.out; omega) HNL.out)
                      have HSK2 := Lib.hid (fun w' (hb : Below wr.heap.size wr w') => rsign_S how (.slice a3 n3 c3) (.slice an nn cn) ql names w' ((hslz.below hbw (Nat.le_refl _)).below hb (Nat.le_refl _)) ((HSN.out.below hbw (Nat.le_refl _)).below hb (Nat.le_refl _)) (by have h : ql.length ≤ 1000 := hgl; omega) HNL.out)
                      have HPR := Lib.hid (fun w' (hb : Below wr.heap.size wr w') => rpair_any how 0 (.slice an nn cn) (.slice ai ni ci) (.slice a2 n2 c2) (.slice a3 n3 c3) names incl zl ql w' (HLZ.out.below (hbw.trans (hb.mono hbw.size)) (Nat.le_refl _)) (hslz.below (hbw.trans (hb.mono hbw.size)) (Nat.le_refl _)) (HSN.out.below (hbw.trans (hb.mono hbw.size)) (Nat.le_refl _)) (HSI.out.below (hbw.trans (hb.mono hbw.size)) (Nat.le_refl _)) (by decide) HZL.out hgl HNL.out)
                      obtain ⟨gi, hgi⟩ : ∃ g, g = signL how names zl := ⟨_, rfl⟩
                      obtain ⟨gk, hgk⟩ : ∃ g, g = signL how names ql := ⟨_, rfl⟩
                      rw [← hgi] at HSI2
                      rw [← hgk] at HSK2
                      obtain ⟨be, hbe⟩ : ∃ b, b = decide (gi = gk) := ⟨_, rfl⟩
                      have HSM := Lib.hid (fun v1 v2 w' (h1 : Sl lenc w' v1 gi) (h2 : Sl lenc w' v2 gk) => rsame_S v1 v2 gi gk w' h1 h2)
                      rw [← hbe] at HSM
                      have HBI := Lib.hid (show be = true ↔ sgP how names (ql, qf) = sgP how names (zl, zf) by
                        rw [hbe, decide_eq_true_iff, hgi, hgk]; exact eq_comm)
                      have HQL := Lib.hid (show (pre ++ (qs.take k).flatMap (stepP op 0 how names incl flag (zl, zf))).length ≤ 90300 by
                        have h1 := flat_le (stepP op 0 how names incl flag (zl, zf)) 1 (stepP_len op 0 how names incl flag (zl, zf)) (qs.take k)
                        have h2 : (qs.take k).length ≤ 300 := by rw [List.length_take]; omega
                        rw [List.length_append]
                        omega)
                      obtain ⟨cur, hcur⟩ : ∃ l, l = pre ++ (qs.take k).flatMap (stepP op 0 how names incl flag (zl, zf)) := ⟨_, rfl⟩
                      rw [← hcur] at HQ HQL
                      have HCUR := Lib.hid (show pre ++ (qs.take (k + 1)).flatMap (stepP op 0 how names incl flag (zl, zf)) = cur ++ stepP op 0 how names incl flag (zl, zf) (ql, qf) by rw [HTF.out, ← List.append_assoc, ← hcur])
                      clear hd hzj hzm hslz hgl hbw hkp hpk hgi hgk hbe hcur
                      go_wp2_with fail
                      have hbA : Below wr.heap.size wr wr := Below.refl _ _
                      have hsA := hbA.size
                      have hfst : True := trivial
                      go_region_held3 (fun w' => w'.cell? ⟨mb, 0, none⟩ = some (.int .i64 how) ∧ w'.cell? ⟨mb, 1, none⟩ = some (.slice an nn cn) ∧ w'.cell? ⟨b, off + j * 2, none⟩ = some (.slice a2 n2 c2) ∧ w'.cell? ⟨bf, off2 + k * 2, none⟩ = some (.slice a3 n3 c3))
                        (exact ⟨cell_below (B := wr.heap.size) (by go_grown) (Nat.le_refl _) m0, cell_below (B := wr.heap.size) (by go_grown) (Nat.le_refl _) m1, cell_below (B := wr.heap.size) (by go_grown) (Nat.le_refl _) p0, cell_below (B := wr.heap.size) (by go_grown) (Nat.le_refl _) e0⟩)
                        (first
                          | (go_at_call 29
                             clear hfst
                             refine (HSI2.out _ (by go_grown)).mono ?_
                             rintro e x3 ⟨a4, n4, c4, rfl, hs4, -, hb4⟩
                             have hbA : Below wr.heap.size wr x3 := Below.trans (by go_grown) (hb4.mono (by first | exact Nat.le_refl _ | (simp; done) | (simp; omega)))
                             have hsA := hbA.size)
                          | (go_at_call 29
                             refine (HSK2.out _ hbA).mono ?_
                             rintro e x4 ⟨a5, n5, c5, rfl, hs5, -, hb5⟩
                             have hs4 := Sl.below hs4 hb5 (Nat.le_refl _)
                             have hbA : Below wr.heap.size wr x4 := hbA.trans (hb5.mono hsA)
                             have hsA := hbA.size)
                          | (go_at_call 28
                             refine (HSM.out _ _ _ hs4 hs5).mono ?_
                             rintro e w5 ⟨rfl, hb6⟩
                             have hbA : Below wr.heap.size wr w5 := hbA.trans (hb6.mono hsA)
                             have hsA := hbA.size))
                      have HB5 := Lib.hid hbA
                      have p0 := cell_below hbA (Nat.le_refl _) p0
                      have p1 := cell_below hbA (Nat.le_refl _) p1
                      have e0 := cell_below hbA (Nat.le_refl _) e0
                      have e1 := cell_below hbA (Nat.le_refl _) e1
                      have m0 := cell_below hbA (Nat.le_refl _) m0
                      have m1 := cell_below hbA (Nat.le_refl _) m1
                      have m2 := cell_below hbA (Nat.le_refl _) m2
                      have m3 := cell_below hbA (Nat.le_refl _) m3
                      clear hbA hsA hs4 hs5 hb4 hb5 hb6 HSI2 HSK2 HSM
                      cases be with
                      | false =>
                        have HST := Lib.hid (show stepP op 0 how names incl flag (zl, zf) (ql, qf) = [] from step_no (fun h => by have := HBI.out.2 h; cases this))
                        have HOV7 := Lib.hid (HQ.out.kept HB5.out)
                        have HB7 := Lib.hid (HK.out.trans (HB5.out.mono hKz))
                        clear p0 p1 e0 e1 m0 m1 m2 m3
                        go_wp2_with fail
                        go_roundw
                        case rel => exact ⟨k + 1, by omega, by go_num, by rw [HCUR.out, HST.out, List.append_nil]; exact HOV7.out, HB7.out⟩
                        case measure => simp [intOf]; omega
                      | true =>
                        have HST := Lib.hid (show stepP op 0 how names incl flag (zl, zf) (ql, qf) = pairP op 0 how names incl flag (zl, zf) (ql, qf) from step_yes (HBI.out.1 rfl))
                        obtain ⟨pl, hpl2⟩ : ∃ l, l = pairL 0 how names incl zl ql := ⟨_, rfl⟩
                        have HPLL := Lib.hid hpl2
                        have HPR5 := Lib.hid (fun w' (hb : Below w5.heap.size w5 w') => HPR.out w' (HB5.out.trans (hb.mono HB5.out.size)))
                        rw [← hpl2] at HPR5
                        clear hpl2 HPR
                        go_wp2_with fail
                        have hbA : Below w5.heap.size w5 w5 := Below.refl _ _
                        have hsA := hbA.size
                        go_region_held3 (fun w' => w'.cell? ⟨mb, 0, none⟩ = some (.int .i64 how) ∧ w'.cell? ⟨mb, 1, none⟩ = some (.slice an nn cn) ∧ w'.cell? ⟨mb, 2, none⟩ = some (.int .i64 0) ∧ w'.cell? ⟨mb, 3, none⟩ = some (.slice ai ni ci) ∧ w'.cell? ⟨b, off + j * 2, none⟩ = some (.slice a2 n2 c2) ∧ w'.cell? ⟨bf, off2 + k * 2, none⟩ = some (.slice a3 n3 c3))
                          (exact ⟨cell_below (B := w5.heap.size) (by go_grown) (Nat.le_refl _) m0, cell_below (B := w5.heap.size) (by go_grown) (Nat.le_refl _) m1, cell_below (B := w5.heap.size) (by go_grown) (Nat.le_refl _) m2, cell_below (B := w5.heap.size) (by go_grown) (Nat.le_refl _) m3, cell_below (B := w5.heap.size) (by go_grown) (Nat.le_refl _) p0, cell_below (B := w5.heap.size) (by go_grown) (Nat.le_refl _) e0⟩)
                          (first
                            | (go_at_call 30
                               refine (HPR5.out _ (by go_grown)).mono ?_
                               rintro e w6 ⟨a6, n6, c6, rfl, hs6, ho6, hb6⟩
                               have ho6 : ∀ q, (Value.slice a6 n6 c6).ownBlock = some q → w5.heap.size ≤ q := fun q hq => Nat.le_trans (show Below w5.heap.size w5 _ by go_grown).size (ho6 q hq)
                               have hbA : Below w5.heap.size w5 w6 := Below.trans (by go_grown) (hb6.mono (by first | exact Nat.le_refl _ | (simp; done) | (simp; omega)))))
                        have HB6 := Lib.hid (HB5.out.trans (hbA.mono HB5.out.size))
                        have HS6 := Lib.hid hs6
                        have HO6 := Lib.hid (fun q hq => Nat.le_trans HB5.out.size (ho6 q hq) : ∀ q, (Value.slice a6 n6 c6).ownBlock = some q → wr.heap.size ≤ q)
                        have p1 := cell_below hbA (Nat.le_refl _) p1
                        have e1 := cell_below hbA (Nat.le_refl _) e1
                        have hb0l : b < w6.heap.size := World.block_lt_of_cell? w6 _ p1
                        have hb0n : b ≠ w6.heap.size := by omega
                        have HLQ := Lib.hid (fun q (hq : u12.ownBlock = some q) => (show w4.heap.size ≤ q ∧ q < wr.heap.size by obtain ⟨_, _, h0, _⟩ := HQ.out; exact h0.lt q hq))
                        obtain ⟨hv, hhv⟩ : ∃ b, b = holdsF op zf qf := ⟨_, rfl⟩
                        have HHD := Lib.hid (fun m => (rholds_any op zf qf (w6.drewN m)).mono (R' := fun e w'' => e = .returned (.bool hv) ∧ ∃ k, w'' = w6.drewN k) fun _ _ ⟨he, hm⟩ => ⟨by rw [hhv]; exact he, m, hm.symm⟩)
                        have HHV := Lib.hid hhv
                        obtain ⟨ov, hov9⟩ : ∃ y, y = opV op zf qf := ⟨_, rfl⟩
                        have HOQ := Lib.hid (fun m => (rop_any op zf qf (w6.drewN m)).mono (R' := fun e w'' => e = .returned (.tuple #[.float .f64 ov, .bool true]) ∧ ∃ k, w'' = w6.drewN k) fun _ _ ⟨he, n, hm⟩ => ⟨by rw [hov9, he, HOPK.out], m + n, by rw [hm, World.drewN_drewN]⟩)
                        have HVV := Lib.hid hov9
                        clear hbA hsA hs6 ho6 hb6 p0 e0 m0 m1 m2 m3 hhv hov9 HPR5
                        by_cases h5 : op < 5
                        · have b5 : decide (5 ≤ op) = false := decide_eq_false (by omega)
                          go_wp2_with fail
                          rw [show w6 = w6.drewN 0 from rfl]
                          go_quiet ((go_at_call 32; exact HOQ.out _))
                          have HCC := Lib.hid (show pairP op 0 how names incl flag (zl, zf) (ql, qf) = [(pl, ov)] by rw [HPLL.out]; exact pairP_yes (show cellB op flag zf qf = true by unfold cellB; rw [if_pos (Or.inl h5)]; exact HOPK.out) (show cellV op flag zf qf = ov by unfold cellV; rw [if_pos (Or.inl h5)]; exact HVV.out.symm))
                          have HBN := Lib.hid (below_drewN HB6.out nq)
                          obtain ⟨zs0, hz0s, hown0, hzok0⟩ := HQ.out.kept HBN.out
                          have HZ0 := Lib.hid hz0s
                          have HW0 := Lib.hid hown0
                          have HK0 := Lib.hid hzok0
                          have HB9 := Lib.hid (HK.out.trans (HBN.out.mono hKz))
                          have hz9q : wr.heap.size ≤ (w6.drewN nq).heap.size := HBN.out.size
                          have hz9 : w4.heap.size ≤ (w6.drewN nq).heap.size := by omega
                          have hz6 := HB6.out.size
                          have HS9 := Lib.hid (show Sl lenc (w6.drewN nq) (.slice a6 n6 c6) pl from HS6.out.below (below_drewN (Below.refl _ _) nq) (Nat.le_refl _))
                          have hqll := HQL.out
                          obtain ⟨cl, hcl⟩ : ∃ n, n = cur.length := ⟨_, rfl⟩
                          rw [← hcl] at hqll HW0
                          have HCL := Lib.hid hcl
                          have p1 : (w6.drewN nq).cell? ⟨b, off + j * 2 + 1, none⟩ = some (.float .f64 zf) := p1
                          clear hz0s hown0 hzok0 hcl
                          go_wp2_with (at_builtin
                                       refine wpList_append_own_at _ rfl (.tmp 134) (.tmp 138) _ rfl w4.heap.size 50 i0 _ 2 32 Tryz.underlying27 hi hz0 hz1 hz2 rfl (by decide) u12 cl (zs0.flatMap zenc) rfl (World.ownsRow.alloc HW0.out _) ⟨(w6.drewN nq).heap.size, 0, none⟩ 1 1 [.slice a6 n6 c6, .float .f64 ov] rfl rfl (World.news_of_block (heap_new (w6.drewN nq) _)) (by intro u hu; simp at hu; rcases hu with rfl | rfl <;> rfl) (by unfold maxLen; omega) (by omega) (by simp; omega) ?_
                                       intro v' w10 hown' hgrow hnil hat
                                       have hbC : Below (w6.drewN nq).heap.size (w6.drewN nq) ((w6.drewN nq).alloc (.cells #[.slice a6 n6 c6, .float .f64 ov] 50)) := (Below.refl _ _).alloc (Nat.le_refl _) _
                                       have hov' : OV w10 w4.heap.size v' (cur ++ [(pl, ov)]) := OV.appended (v' := v') (w' := w10) (z := (.slice a6 n6 c6, pl, ov)) HZ0.out (fun z hz => (HK0.out z hz).below hbC (Nat.le_refl _))
                                         ⟨HS9.out.below hbC (Nat.le_refl _), fun hx0 he => by
                                           obtain ⟨q, e1, _⟩ := HS9.out.lt hx0
                                           have h3 := HO6.out q e1
                                           have h4 := (HLQ.out q (by rw [← he]; exact e1)).2
                                           omega⟩ (by rw [← HCL.out]; exact hown') hgrow hat
                                       have HOV7 := Lib.hid hov'
                                       have HB10 := Lib.hid ((HB9.out.trans (hbC.mono hz9)).grown hgrow (by simp; omega) (fun q hq => (HLQ.out q hq).1))
                                       clear hown' hgrow hnil hat hov' hbC)
                          go_wp2_with fail
                          go_roundw
                          case rel => exact ⟨k + 1, by omega, by go_num, by rw [HCUR.out, HST.out, HCC.out]; exact HOV7.out, HB10.out⟩
                          case measure => simp [intOf]; omega
                        · have b5 : decide (5 ≤ op) = true := decide_eq_true (by omega)
                          have h5' : 5 ≤ op := by omega
                          cases flag with
                          | true =>
                            go_wp2_with fail
                            rw [show w6 = w6.drewN 0 from rfl]
                            go_quiet ((go_at_call 32; exact HOQ.out _))
                            have HCC := Lib.hid (show pairP op 0 how names incl true (zl, zf) (ql, qf) = [(pl, ov)] by rw [HPLL.out]; exact pairP_yes (show cellB op true zf qf = true by unfold cellB; rw [if_pos (Or.inr rfl)]; exact HOPK.out) (show cellV op true zf qf = ov by unfold cellV; rw [if_pos (Or.inr rfl)]; exact HVV.out.symm))
                            have HBN := Lib.hid (below_drewN HB6.out nq)
                            obtain ⟨zs0, hz0s, hown0, hzok0⟩ := HQ.out.kept HBN.out
                            have HZ0 := Lib.hid hz0s
                            have HW0 := Lib.hid hown0
                            have HK0 := Lib.hid hzok0
                            have HB9 := Lib.hid (HK.out.trans (HBN.out.mono hKz))
                            have hz9q : wr.heap.size ≤ (w6.drewN nq).heap.size := HBN.out.size
                            have hz9 : w4.heap.size ≤ (w6.drewN nq).heap.size := by omega
                            have hz6 := HB6.out.size
                            have HS9 := Lib.hid (show Sl lenc (w6.drewN nq) (.slice a6 n6 c6) pl from HS6.out.below (below_drewN (Below.refl _ _) nq) (Nat.le_refl _))
                            have hqll := HQL.out
                            obtain ⟨cl, hcl⟩ : ∃ n, n = cur.length := ⟨_, rfl⟩
                            rw [← hcl] at hqll HW0
                            have HCL := Lib.hid hcl
                            have p1 : (w6.drewN nq).cell? ⟨b, off + j * 2 + 1, none⟩ = some (.float .f64 zf) := p1
                            clear hz0s hown0 hzok0 hcl
                            go_wp2_with (at_builtin
                                         refine wpList_append_own_at _ rfl (.tmp 134) (.tmp 138) _ rfl w4.heap.size 50 i0 _ 2 32 Tryz.underlying27 hi hz0 hz1 hz2 rfl (by decide) u12 cl (zs0.flatMap zenc) rfl (World.ownsRow.alloc HW0.out _) ⟨(w6.drewN nq).heap.size, 0, none⟩ 1 1 [.slice a6 n6 c6, .float .f64 ov] rfl rfl (World.news_of_block (heap_new (w6.drewN nq) _)) (by intro u hu; simp at hu; rcases hu with rfl | rfl <;> rfl) (by unfold maxLen; omega) (by omega) (by simp; omega) ?_
                                         intro v' w10 hown' hgrow hnil hat
                                         have hbC : Below (w6.drewN nq).heap.size (w6.drewN nq) ((w6.drewN nq).alloc (.cells #[.slice a6 n6 c6, .float .f64 ov] 50)) := (Below.refl _ _).alloc (Nat.le_refl _) _
                                         have hov' : OV w10 w4.heap.size v' (cur ++ [(pl, ov)]) := OV.appended (v' := v') (w' := w10) (z := (.slice a6 n6 c6, pl, ov)) HZ0.out (fun z hz => (HK0.out z hz).below hbC (Nat.le_refl _))
                                           ⟨HS9.out.below hbC (Nat.le_refl _), fun hx0 he => by
                                             obtain ⟨q, e1, _⟩ := HS9.out.lt hx0
                                             have h3 := HO6.out q e1
                                             have h4 := (HLQ.out q (by rw [← he]; exact e1)).2
                                             omega⟩ (by rw [← HCL.out]; exact hown') hgrow hat
                                         have HOV7 := Lib.hid hov'
                                         have HB10 := Lib.hid ((HB9.out.trans (hbC.mono hz9)).grown hgrow (by simp; omega) (fun q hq => (HLQ.out q hq).1))
                                         clear hown' hgrow hnil hat hov' hbC)
                            go_wp2_with fail
                            go_roundw
                            case rel => exact ⟨k + 1, by omega, by go_num, by rw [HCUR.out, HST.out, HCC.out]; exact HOV7.out, HB10.out⟩
                            case measure => simp [intOf]; omega
                          | false =>
                            have hnf : ¬ (op < 5 ∨ false = true) := by simp; omega
                            cases hv with
                            | true =>
                              go_wp2_with fail
                              rw [show w6 = w6.drewN 0 from rfl]
                              go_quiet ((go_at_call 31; exact HHD.out _))
                              have HCC := Lib.hid (show pairP op 0 how names incl false (zl, zf) (ql, qf) = [(pl, zf)] by rw [HPLL.out]; exact pairP_yes (show cellB op false zf qf = true by unfold cellB; rw [if_neg hnf]; exact HHV.out.symm) (show cellV op false zf qf = zf by unfold cellV; rw [if_neg hnf]))
                              have HBN := Lib.hid (below_drewN HB6.out nq)
                              obtain ⟨zs0, hz0s, hown0, hzok0⟩ := HQ.out.kept HBN.out
                              have HZ0 := Lib.hid hz0s
                              have HW0 := Lib.hid hown0
                              have HK0 := Lib.hid hzok0
                              have HB9 := Lib.hid (HK.out.trans (HBN.out.mono hKz))
                              have hz9q : wr.heap.size ≤ (w6.drewN nq).heap.size := HBN.out.size
                              have hz9 : w4.heap.size ≤ (w6.drewN nq).heap.size := by omega
                              have hz6 := HB6.out.size
                              have HS9 := Lib.hid (show Sl lenc (w6.drewN nq) (.slice a6 n6 c6) pl from HS6.out.below (below_drewN (Below.refl _ _) nq) (Nat.le_refl _))
                              have hqll := HQL.out
                              obtain ⟨cl, hcl⟩ : ∃ n, n = cur.length := ⟨_, rfl⟩
                              rw [← hcl] at hqll HW0
                              have HCL := Lib.hid hcl
                              have p1 : (w6.drewN nq).cell? ⟨b, off + j * 2 + 1, none⟩ = some (.float .f64 zf) := p1
                              clear hz0s hown0 hzok0 hcl
                              go_wp2_with (at_builtin
                                           refine wpList_append_own_at _ rfl (.tmp 109) (.tmp 117) _ rfl w4.heap.size 50 i0 _ 2 32 Tryz.underlying27 hi hz0 hz1 hz2 rfl (by decide) u12 cl (zs0.flatMap zenc) rfl (World.ownsRow.alloc HW0.out _) ⟨(w6.drewN nq).heap.size, 0, none⟩ 1 1 [.slice a6 n6 c6, .float .f64 zf] rfl rfl (World.news_of_block (heap_new (w6.drewN nq) _)) (by intro u hu; simp at hu; rcases hu with rfl | rfl <;> rfl) (by unfold maxLen; omega) (by omega) (by simp; omega) ?_
                                           intro v' w10 hown' hgrow hnil hat
                                           have hbC : Below (w6.drewN nq).heap.size (w6.drewN nq) ((w6.drewN nq).alloc (.cells #[.slice a6 n6 c6, .float .f64 zf] 50)) := (Below.refl _ _).alloc (Nat.le_refl _) _
                                           have hov' : OV w10 w4.heap.size v' (cur ++ [(pl, zf)]) := OV.appended (v' := v') (w' := w10) (z := (.slice a6 n6 c6, pl, zf)) HZ0.out (fun z hz => (HK0.out z hz).below hbC (Nat.le_refl _))
                                             ⟨HS9.out.below hbC (Nat.le_refl _), fun hx0 he => by
                                               obtain ⟨q, e1, _⟩ := HS9.out.lt hx0
                                               have h3 := HO6.out q e1
                                               have h4 := (HLQ.out q (by rw [← he]; exact e1)).2
                                               omega⟩ (by rw [← HCL.out]; exact hown') hgrow hat
                                           have HOV7 := Lib.hid hov'
                                           have HB10 := Lib.hid ((HB9.out.trans (hbC.mono hz9)).grown hgrow (by simp; omega) (fun q hq => (HLQ.out q hq).1))
                                           clear hown' hgrow hnil hat hov' hbC)
                              go_wp2_with fail
                              go_roundw
                              case rel => exact ⟨k + 1, by omega, by go_num, by rw [HCUR.out, HST.out, HCC.out]; exact HOV7.out, HB10.out⟩
                              case measure => simp [intOf]; omega
                            | false =>
                              have HCC := Lib.hid (show pairP op 0 how names incl false (zl, zf) (ql, qf) = [] from pairP_no (show cellB op false zf qf = false by unfold cellB; rw [if_neg hnf]; exact HHV.out.symm))
                              go_wp2_with fail
                              rw [show w6 = w6.drewN 0 from rfl]
                              go_quiet ((go_at_call 31; exact HHD.out _))
                              have HBN := Lib.hid (below_drewN HB6.out nq)
                              have HOV7 := Lib.hid (HQ.out.kept HBN.out)
                              have HB10 := Lib.hid (HK.out.trans (HBN.out.mono hKz))
                              go_wp2_with fail
                              go_roundw
                              case rel => exact ⟨k + 1, by omega, by go_num, by rw [HCUR.out, HST.out, HCC.out, List.append_nil]; exact HOV7.out, HB10.out⟩
                              case measure => simp [intOf]; omega
                    · have hltz2 : ¬ (k : Int) < (NB : Int) := by omega
                      obtain rfl : k = NB := by omega
                      have HQE := Lib.hid (show OV wr w4.heap.size u12 ((ps.take (j + 1)).flatMap (rowP op 0 how names incl flag qs)) by
                        have h1 := HQ.out
                        rw [List.take_of_length_le (by have := HLB.out; omega), row_step] at h1
                        rw [HTK.out]; exact h1)
                      clear HQ
                      go_wp2_with fail
                      go_roundw
                      case rel => exact ⟨j + 1, by omega, by go_num, HQE.out, HK.out⟩
                      case measure => simp [intOf]; omega
                · have hltz : ¬ (j : Int) < (NA : Int) := by omega
                  obtain rfl : j = NA := by omega
                  have hov := HO.out
                  rw [List.take_of_length_le (by have := HLA.out; omega)] at hov
                  have HNM := Lib.hid (rnormal_any _ _ wo hov.vs (by
                    have h1 := flat_le (rowP op 0 how names incl flag qs) 300 (fun p => rowP_len op 0 how names incl flag p HPB3.out) ps
                    have h2 := HPA3.out
                    have h3 := Nat.mul_le_mul_right 300 h2
                    omega))
                  obtain ⟨a8, c8, rfl, -, -⟩ := hov.slice
                  obtain ⟨N8, hN8⟩ : ∃ n, n = (ps.flatMap (rowP op 0 how names incl flag qs)).length := ⟨_, rfl⟩
                  rw [← hN8] at HNM ⊢
                  clear hov HO hN8
                  go_wp2_with fail
                  refine HNM.out.mono ?_
                  rintro e w9 ⟨hb9, hnr⟩
                  obtain ⟨v5, n5, rfl⟩ := nr_tuple hnr
                  have HNR := Lib.hid hnr
                  have HB9 := Lib.hid (HB4.out.trans ((HB.out.trans (hb9.mono hBz)).mono HB4.out.size))
                  clear hnr hb9 HNM
                  go_wp2_with fail
                  go_ret2
                  exact ⟨HB9.out, .inr (.inr ⟨HOK3.out, HNT.out, HNR.out⟩)⟩
      · have HC0 := Lib.hid (show mchkL how names card incl ≠ 0 by rw [← hck]; exact hc0)
        have hc1 : (ck != 0) = true := by simpa using hc0
        have hc2 : (ck == 0) = false := by simpa using hc0
        clear hc0 hck
        subst hcd
        go_enter Tryz.func10, Tryz.ntmps10
        go_wp2_with fail
        rw [← HW1.out, ← HMB.out]
        refine (HCK.out _ HB1.out).mono ?_
        rintro e w2 ⟨rfl, hb2⟩
        have HB2 := Lib.hid (HB1.out.trans (hb2.mono HB1.out.size))
        clear hb2
        go_wp2_with fail
        go_ret2
        exact ⟨HB2.out, .inl ⟨.inr (.inr HC0.out), rfl⟩⟩
end Go.Proofs.YtogjcaakfnfapaaGreatDoor
