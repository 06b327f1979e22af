/- The walk of WaveWhole. -/
import Derived.Test.YtdhahnagnemgaaaWhole
import Derived.Test.YtdhahnagnemgaaaWturns
import Derived.Test.YtdhahnagnemgaaaOpen
import Derived.Test.YtdhahnagnemgaaaApp
namespace Go.Proofs.Ytdhahnagnemgaaa
open Go.RowKit
set_option linter.unusedVariables false
set_option linter.unusedSimpArgs false

theorem turned_any (r i : Nat) (q : Int) (w : World) (h0 : -9223372036854775808 ≤ q) (h1 : q ≤ 9223372036854775807) (hq : 0 ≤ quarter r i ∧ quarter r i ≤ 3)
    (ht : ¬(fo r 0 = some .eq ∧ fo i 0 = some .eq) → quarter (turn r i (q % 4).toNat).1 (turn r i (q % 4).toNat).2 = (quarter r i + q) % 4) :
    Calls Try.prog 29 #[.complex .f64 r i, .int .i64 q] w fun e w' => e = .returned (.int .i64 ((quarter r i + q) % 4)) ∧ w = w' := by
  have b1 := and3 q
  have b2 := and3 (quarter r i + q % 4)
  have HT := Lib.hid ht
  clear ht
  go_enter Try.func29, Try.ntmps29
  go_wp2_with (first | (go_at_call 17; refine (turn_any _ _ _ _ h0 h1).mono ?_; rintro e w' ⟨rfl, rfl⟩) | (go_at_call 23; refine (wquarter_any _ _ _).mono ?_; rintro e w' ⟨rfl, rfl⟩))
  all_goals go_ret
  · exact ⟨rfl, rfl⟩
  · rename_i h
    exact ⟨ret_i (HT.out (fun ⟨_, e⟩ => by unfold fo at e; simp [e] at h)), rfl⟩
  · rename_i h
    exact ⟨ret_i (HT.out (fun ⟨e, _⟩ => h e)), rfl⟩

/-- The k-th number of a list. -/
def zx (zs : List Int) (k : Nat) : Int := zs.getD k 0
theorem IRow.below {k : IntKind} {w w' : World} {B : Nat} {a : Option Addr} {xs : List Int} (h : IRow k w a xs) (hb : Below B w w') (hB : w.heap.size ≤ B) : IRow k w' a xs := by
  refine ⟨h.1, fun hx => ?_⟩
  obtain ⟨b, off, rfl, hc⟩ := h.2 hx
  refine ⟨b, off, rfl, fun j hj => ?_⟩
  have := hc j hj
  rw [hb.cell (by have := World.block_lt_of_cell? w _ this; simp only at this ⊢; omega)]
  exact this
theorem take_snoc_z (xs : List Int) (k : Nat) (h : k < xs.length) : xs.take (k + 1) = xs.take k ++ [zx xs k] := by
  rw [List.take_succ_eq_append_getElem h]; simp [zx, h]

theorem fx_map (zs : List Int) (k : Nat) (h : k < zs.length) : fx (zs.map fenc) k = fenc (zx zs k) := by
  simp [fx, zx, h]
theorem zx_bound {zs : List Int} (h : ∀ z ∈ zs, -32768 ≤ z ∧ z ≤ 32767) (k : Nat) : -32768 ≤ zx zs k ∧ zx zs k ≤ 32767 := by
  unfold zx
  by_cases hk : k < zs.length
  · simp only [List.getD_eq_getElem?_getD, List.getElem?_eq_getElem hk, Option.getD_some]
    exact h _ (List.getElem_mem hk)
  · simp [List.getElem?_eq_none (by omega : zs.length ≤ k)]
theorem whole_sums (zs ys : List Int) (hz : ∀ z ∈ zs, -32768 ≤ z ∧ z ≤ 32767) (hy : ∀ z ∈ ys, -32768 ≤ z ∧ z ≤ 32767) (m1 : zs.length ≤ 200) (m2 : ys.length ≤ 200) (h4 : zs.length % 4 = 0) :
    ∃ A B C D, ws (zs.map fenc) zs.length = (fenc A, fenc B) ∧ ws (ys.map fenc) ys.length = (fenc C, fenc D) ∧ ws ((zs ++ ys).map fenc) (zs.length + ys.length) = (fenc (A + C), fenc (B + D)) ∧
      A.natAbs < 2 ^ 50 ∧ B.natAbs < 2 ^ 50 ∧ C.natAbs < 2 ^ 50 ∧ D.natAbs < 2 ^ 50 := by
  have hzy : ∀ z ∈ zs ++ ys, -32768 ≤ z ∧ z ≤ 32767 := by
    intro z h; rcases List.mem_append.1 h with h | h
    · exact hz z h
    · exact hy z h
  have b1 := isum_bound (zx zs) (zx_bound hz) zs.length
  have b2 := isum_bound (zx ys) (zx_bound hy) ys.length
  refine ⟨_, _, _, _, ws_isum _ (zx zs) (zx_bound hz) zs.length (by omega) (fun k hk => fx_map zs k hk) _ (Nat.le_refl _), ws_isum _ (zx ys) (zx_bound hy) ys.length (by omega) (fun k hk => fx_map ys k hk) _ (Nat.le_refl _), ?_, by omega, by omega, by omega, by omega⟩
  rw [ws_isum _ (zx (zs ++ ys)) (zx_bound hzy) (zs.length + ys.length) (by omega) (fun k hk => fx_map _ k (by simpa using hk)) _ (Nat.le_refl _)]
  rw [isum_append (zx zs) (zx ys) (zx (zs ++ ys)) zs.length h4 (fun k hk => by simp [zx, List.getElem?_append_left hk]) (fun k => by simp [zx, List.getElem?_append_right (Nat.le_add_right _ _)])]

set_option maxRecDepth 100000 in
set_option maxHeartbeats 2000000 in
theorem wwhole_walk (a1 a2 : Option Addr) (c1 c2 : Nat) (zs ys : List Int) (q : Int) (w : World) (h1 : IRow .i16 w a1 zs) (h2 : IRow .i16 w a2 ys) (m1 : zs.length ≤ 200) (m2 : ys.length ≤ 200) (h4 : zs.length % 4 = 0)
    (q0 : -9223372036854775808 ≤ q) (q1 : q ≤ 9223372036854775807) :
    Calls Try.prog 5 #[.slice a1 zs.length c1, .slice a2 ys.length c2, .int .i64 q] w fun e w' => e = .returned (.bool true) ∧ Below w.heap.size w w' := by
  obtain ⟨i0, hi, hz0, hz1, hz2⟩ := info_parts Try.infoF
  obtain ⟨A, B, C, D, e1, e2, e3, bA, bB, bC, bD⟩ := whole_sums zs ys (fun z hz => i16_in (h1.1 z hz)) (fun z hz => i16_in (h2.1 z hz)) m1 m2 h4
  have E1 := Lib.hid e1
  have E2 := Lib.hid e2
  have E3 := Lib.hid e3
  have c1' := cop_fenc_add A C (by omega) (by omega) (by omega)
  have c2' := cop_fenc_add B D (by omega) (by omega) (by omega)
  have hX := fenc_val (A + C) (by omega)
  have hY := fenc_val (B + D) (by omega)
  obtain ⟨X, hXe⟩ : ∃ X, X = fenc (A + C) := ⟨_, rfl⟩
  obtain ⟨Y, hYe⟩ : ∃ Y, Y = fenc (B + D) := ⟨_, rfl⟩
  rw [← hXe] at c1' hX
  rw [← hYe] at c2' hY
  rw [← hXe, ← hYe] at e3
  have E3' := Lib.hid e3
  have P1 := Lib.hid c1'
  have P2 := Lib.hid c2'
  have hM : NN (mag X Y) := mag_nn (val_num hX) (val_num hY)
  have hMM : FloatKind.f64.format.order (mag X Y) (mag X Y) = some .eq := by have := nn_num hM; unfold fnan at this; simpa using this
  have hXX : FloatKind.f64.format.order X X = some .eq := by have := val_num hX; unfold fnan at this; simpa using this
  have hYY : FloatKind.f64.format.order Y Y = some .eq := by have := val_num hY; unfold fnan at this; simpa using this
  have hM0 : (FloatKind.f64.format.order (mag X Y) 0 == some .gt || FloatKind.f64.format.order (mag X Y) 0 == some .eq) = true := nn_ge hM
  have HMM := Lib.hid hMM
  have HXX := Lib.hid hXX
  have HYY := Lib.hid hYY
  have HM0 := Lib.hid hM0
  have hq03 : 0 ≤ quarter X Y ∧ quarter X Y ≤ 3 := by
    unfold quarter; split <;> (try split) <;> (try split) <;> (try split) <;> omega
  have htn : ¬(fo X 0 = some .eq ∧ fo Y 0 = some .eq) → quarter (turn X Y (q % 4).toNat).1 (turn X Y (q % 4).toNat).2 = (quarter X Y + q) % 4 := by
    intro hne
    have := (quarter_turn hX hY (fun ⟨ea, eb⟩ => hne ⟨by rw [fo_val hX, ea]; rfl, by rw [fo_val hY, eb]; rfl⟩) (q % 4).toNat).1
    rw [this, quarter_val hX hY]
    omega
  have HTN := Lib.hid htn
  clear htn e1 e2 e3 c1' c2' hXe hYe hMM hXX hYY hM0 hX hY hM
  have hm4 : ((zs.length : Int) % 4 == 0) = true := by simp; omega
  have hm5 : ((zs.length : Int) % 4 != 0) = false := by simp; omega
  have H4 := Lib.hid h4
  clear h4
  go_enter Try.func5, Try.ntmps5
  go_wp2_with fail
  refine (known7 _).mono ?_
  rintro e w1 ⟨rfl, hb1⟩
  have r1 := h1.below hb1 (Nat.le_refl _)
  have r2 := h2.below hb1 (Nat.le_refl _)
  have hs1 := hb1.size
  go_wp2_with fail
  go_loopw [7, 9] (fun v i wr => ∃ k : Nat, k ≤ zs.length ∧ i = .int .i64 k ∧ wr.ownsRow w1.heap.size 28 1 v k (((zs.take k).map fenc).map (Value.float .f64)) ∧ Below w1.heap.size w1 wr) (fun _ i _ => zs.length - (intOf i).toNat)
  case atStart => exact ⟨0, Nat.zero_le _, rfl, by simpa using World.ownsRow_nil _ _ _ _, Below.refl _ _⟩
  case round =>
    obtain ⟨k, hk, rfl, hown, hb⟩ := hrel
    by_cases hlt : k < zs.length
    · obtain ⟨b, off, rfl, hcell⟩ := r1.2 (by intro e; simp [e] at hlt)
      have hc0 : wr.cell? ⟨b, off + k, none⟩ = some (.int .i16 (zx zs k)) := by
        have := hcell k hlt
        rw [hb.cell (World.block_lt_of_cell? _ _ this)]
        exact this
      clear hcell
      have hB := hb.size
      have HO := Lib.hid hown
      go_wp2_with (at_builtin; refine wpList_append_own _ rfl _ _ 24 rfl w1.heap.size 28 i0 (.float .f64 0) 1 8 Try.underlying24 hi hz0 hz1 hz2 rfl (by decide) _ _ _ rfl (hown.alloc _) ⟨wr.heap.size, 0, none⟩ 1 1 [.float .f64 (fenc (zx zs k))] rfl rfl ?c1 ?c2 ?c3 ?c4 ?c5 ?_)
      case c1 => exact one_new _ _ _
      case c2 => intro u hu; simp at hu; subst hu; rfl
      case c3 => unfold maxLen; omega
      case c4 => omega
      case c5 => simp; omega
      intro v' w2 hown' hgrow _
      have HG := Lib.hid hgrow
      have HO' := Lib.hid hown'
      clear hown hgrow hown'
      go_wp2_with fail
      go_roundw
      case rel =>
        refine ⟨k + 1, by omega, by go_num, ?_, (hb.alloc hB _).grown HG.out (by simp; omega) (fun j hj => (HO.out.lt j hj).1)⟩
        have := HO'.out
        rw [take_snoc_z zs k hlt, List.map_append, List.map_append]
        simpa using this
      case measure => simp [intOf]; omega
    · obtain rfl : k = zs.length := by omega
      rw [List.take_length] at hown
      obtain ⟨a', cap', rfl, hrow, hnil1⟩ := FRow.own2 (xs := zs.map fenc) hown (by simp; omega)
      rw [List.length_map]
      clear hown
      obtain ⟨wo, rfl⟩ : ∃ wo : World, wo = wr := ⟨_, rfl⟩
      have hso := hb.size
      have r3 := r2.below hb (Nat.le_refl _)
      go_wp2_with fail
      go_loopw [8, 10] (fun v i wr => ∃ k : Nat, k ≤ ys.length ∧ i = .int .i64 k ∧ wr.ownsRow wo.heap.size 28 1 v k (((ys.take k).map fenc).map (Value.float .f64)) ∧ Below wo.heap.size wo wr) (fun _ i _ => ys.length - (intOf i).toNat)
      case atStart => exact ⟨0, Nat.zero_le _, rfl, by simpa using World.ownsRow_nil _ _ _ _, Below.refl _ _⟩
      case round =>
        obtain ⟨k, hk, rfl, hown, hd⟩ := hrel
        by_cases hlt : k < ys.length
        · obtain ⟨b, off, rfl, hcell⟩ := r3.2 (by intro e; simp [e] at hlt)
          have hc0 : wr.cell? ⟨b, off + k, none⟩ = some (.int .i16 (zx ys k)) := by
            have := hcell k hlt
            rw [hd.cell (World.block_lt_of_cell? _ _ this)]
            exact this
          clear hcell
          have hB := hd.size
          have HO := Lib.hid hown
          go_wp2_with (at_builtin; refine wpList_append_own _ rfl _ _ 24 rfl wo.heap.size 28 i0 (.float .f64 0) 1 8 Try.underlying24 hi hz0 hz1 hz2 rfl (by decide) _ _ _ rfl (hown.alloc _) ⟨wr.heap.size, 0, none⟩ 1 1 [.float .f64 (fenc (zx ys k))] rfl rfl ?d1 ?d2 ?d3 ?d4 ?d5 ?_)
          case d1 => exact one_new _ _ _
          case d2 => intro u hu; simp at hu; subst hu; rfl
          case d3 => unfold maxLen; omega
          case d4 => omega
          case d5 => simp; omega
          intro v' w2 hown' hgrow _
          have HG := Lib.hid hgrow
          have HO' := Lib.hid hown'
          clear hown hgrow hown'
          go_wp2_with fail
          go_roundw
          case rel =>
            refine ⟨k + 1, by omega, by go_num, ?_, (hd.alloc hB _).grown HG.out (by simp; omega) (fun j hj => (HO.out.lt j hj).1)⟩
            have := HO'.out
            rw [take_snoc_z ys k hlt, List.map_append, List.map_append]
            simpa using this
          case measure => simp [intOf]; omega
        · obtain rfl : k = ys.length := by omega
          rw [List.take_length] at hown
          obtain ⟨a2', cap2', rfl, hrow2, hnil2⟩ := FRow.own2 (xs := ys.map fenc) hown (by simp; omega)
          rw [List.length_map]
          clear hown
          have hrow1 := hrow.below hd (Nat.le_refl _)
          clear hrow
          have HR1 := Lib.hid hrow1
          have HR2 := Lib.hid hrow2
          clear hrow1 hrow2
          have HN1 := Lib.hid hnil1
          have HN2 := Lib.hid hnil2
          clear hnil1 hnil2
          go_wp2_with fail
          refine (wsum_at (by simp) HR1.out E1.out).mono ?_
          rintro e w3 ⟨rfl, n3, rfl⟩
          go_wp2_with fail
          refine (wsum_at (by simp) (HR2.out.drewN n3) E2.out).mono ?_
          rintro e w4 ⟨rfl, n4, rfl⟩
          have HM : ((wr.drewN (n3 + n4)).alloc (.cells #[] 28)).ownsRow wr.heap.size 28 1 (.slice (some ⟨wr.heap.size, 0, none⟩) 0 0) 0 [] := World.ownsRow_made (wr.drewN (n3 + n4)) #[] 0 (Nat.le_refl _) (by unfold maxLen; omega) rfl
          have hbm : Below wr.heap.size wr ((wr.drewN (n3 + n4)).alloc (.cells #[] 28)) := (below_drewN (Below.refl _ _) _).alloc (Nat.le_refl _) _
          have HBM := Lib.hid hbm
          clear hbm
          go_wp2_with (at_builtin; refine wpList_append_rd rfl (.tmp 63) (.tmp 64) _ rfl wr.heap.size 28 i0 (.float .f64 0) 1 8 Try.underlying24 hi hz0 hz1 hz2 rfl (by decide) _ 0 [] rfl HM _ _ _ ((zs.map fenc).map (Value.float .f64)) rfl ?e1 ?e2 ?e3 ?e4 ?e5 ?e6 ?e7 ?_)
          case e1 => intro e; have := HR1.out.empty e; have hcz := HN1.out e; simp at this; subst this; exact ⟨rfl, hcz, rfl⟩
          case e2 => simp
          case e3 => exact (HR1.out.below HBM.out (Nat.le_refl _)).news
          case e4 => intro u hu; obtain ⟨_, _, rfl⟩ := List.mem_map.1 hu; rfl
          case e5 => unfold maxLen; omega
          case e6 => omega
          case e7 => have := HBM.out.size; simp
          intro v1 w2 hown1 hg1
          have hb2 : Below wr.heap.size wr w2 := HBM.out.grown hg1 (by have := HBM.out.size; simp) (fun j hj => by injection hj with hj; exact Nat.le_of_eq hj)
          have HB2 := Lib.hid hb2
          have hs2 := hb2.size
          have HO1 := Lib.hid hown1
          clear hg1 hb2 HM
          go_wp2_with (at_builtin; refine wpList_append_rd rfl (.tmp 65) (.tmp 66) _ rfl wr.heap.size 28 i0 (.float .f64 0) 1 8 Try.underlying24 hi hz0 hz1 hz2 rfl (by decide) _ zs.length _ rfl hown1 _ _ _ ((ys.map fenc).map (Value.float .f64)) rfl ?f1 ?f2 ?f3 ?f4 ?f5 ?f6 ?f7 ?_)
          case f1 => intro e; have := HR2.out.empty e; have hcz := HN2.out e; simp at this; subst this; exact ⟨rfl, hcz, rfl⟩
          case f2 => simp
          case f3 => exact (HR2.out.below HB2.out (Nat.le_refl _)).news
          case f4 => intro u hu; obtain ⟨_, _, rfl⟩ := List.mem_map.1 hu; rfl
          case f5 => unfold maxLen; omega
          case f6 => omega
          case f7 => exact hs2
          intro v3 w3 hown3 hg3
          have hb3 : Below wr.heap.size wr w3 := HB2.out.grown hg3 hs2 (fun j hj => (HO1.out.lt j hj).1)
          have h5 : w3.ownsRow wr.heap.size 28 1 v3 (zs.length + ys.length) (((zs ++ ys).map fenc).map (Value.float .f64)) := by simpa using hown3
          obtain ⟨a5, cap5, rfl, hrow5, _⟩ := FRow.own2 h5 (by simp; omega)
          clear h5
          have HR5 := Lib.hid hrow5
          have HB3 := Lib.hid hb3
          clear hown1 hown3 hg3 hrow5 hb3
          go_wp2_with fail
          refine (wsum_at (by simp) HR5.out E3'.out).mono ?_
          rintro e w5 ⟨rfl, n5, rfl⟩
          go_wp2_with fail
          refine (wplus_any _ _ _ _ _).mono ?_
          rw [P1.out, P2.out]
          rintro e w6 ⟨rfl, n6, rfl⟩
          have k1 := HXX.out
          have k2 := HYY.out
          go_wp2_with fail
          refine (turn_any _ _ _ _ q0 q1).mono ?_
          rintro e w7 ⟨rfl, rfl⟩
          go_wp2_with fail
          refine (mag_any _ _ _).mono ?_
          rw [mag_turn]
          rintro e w8 ⟨rfl, n8, rfl⟩
          go_wp2_with fail
          refine (mag_any _ _ _).mono ?_
          rintro e w9 ⟨rfl, n9, rfl⟩
          have k3 := HMM.out
          go_wp2_with fail
          refine (mag_any _ _ _).mono ?_
          rintro e w9 ⟨rfl, n10, rfl⟩
          have k4 := HM0.out
          go_wp2_with fail
          refine (wquarter_any _ _ _).mono ?_
          rintro e w10 ⟨rfl, rfl⟩
          have k5 := and3 q
          have k6 := and3 (quarter X Y + q % 4)
          go_wp2_with fail
          refine (turned_any _ _ _ _ q0 q1 hq03 HTN.out).mono ?_
          rintro e w11 ⟨rfl, rfl⟩
          go_wp2_with fail
          go_ret
          refine ⟨rfl, ?_⟩
          have d1 := hb1.trans (hb.mono hb1.size)
          have d2 := d1.trans (hd.mono (Nat.le_trans hs1 hso))
          have d3 := d2.trans (HB3.out.mono d2.size)
          exact below_drewN d3 _
    
theorem waveWhole_walk (a1 : Option Addr) (c1 : Nat) (zs : List Int) (a2 : Option Addr) (c2 : Nat) (ys : List Int) (q : Int) (w : World) (h1 : IRow .i16 w a1 zs) (_ : zs.length * 2 ≤ 140737488351232) (h2 : IRow .i16 w a2 ys) (_ : ys.length * 2 ≤ 140737488351232) (wq : (Lit.int .i64 q).wf = true) :
    Calls Try.prog 5 #[.slice a1 zs.length c1, .slice a2 ys.length c2, .int .i64 q] w fun e w' => e = .returned (.bool true) ∧ Below w.heap.size w w' := by
  by_cases m1 : zs.length ≤ 200
  · by_cases m2 : ys.length ≤ 200
    · by_cases h4 : zs.length % 4 = 0
      · exact wwhole_walk a1 a2 c1 c2 zs ys q w h1 h2 m1 m2 h4 (i64_in wq).1 (i64_in wq).2
      · have hm4 : ((zs.length : Int) % 4 == 0) = false := by simp; omega
        have hm5 : ((zs.length : Int) % 4 != 0) = true := by simp; omega
        clear h4
        go_enter Try.func5, Try.ntmps5
        go_wp2_with fail
        refine (known7 _).mono ?_
        rintro e w1 ⟨rfl, hb1⟩
        go_wp2_with fail
        go_ret
        exact ⟨rfl, hb1⟩
    · have hd : decide ((200 : Int) < ys.length) = true := by simp; omega
      go_enter Try.func5, Try.ntmps5
      go_wp2_with fail
      refine (known7 _).mono ?_
      rintro e w1 ⟨rfl, hb1⟩
      go_wp2_with fail
      go_ret
      exact ⟨rfl, hb1⟩
  · have hd : decide ((200 : Int) < zs.length) = true := by simp; omega
    go_enter Try.func5, Try.ntmps5
    go_wp2_with fail
    refine (known7 _).mono ?_
    rintro e w1 ⟨rfl, hb1⟩
    go_wp2_with fail
    go_ret
    exact ⟨rfl, hb1⟩
end Go.Proofs.Ytdhahnagnemgaaa
