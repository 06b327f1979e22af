/- Agg, the code's walk. (Several texts in one file, by merge.py.) -/
import Derived.Test.YtogjcaakfnfapaaDoorZA9
namespace Go.Proofs.YtogjcaakfnfapaaDoor
open Go Go.RowKit Go.Maps
set_option linter.unusedVariables false
set_option linter.unusedSimpArgs false
set_option maxRecDepth 100000
def glZ (how : Int) (names : List ByteArray) (z : ZPt) : List Lb := groupL how names z.2.1
theorem group_len (how : Int) (names : List ByteArray) (l : List Lb) : (groupL how names l).length ≤ l.length := by
  unfold groupL
  have hp : ∀ (ns : List ByteArray) (b : Bool) (l : List Lb), (pickL ns b l).length ≤ l.length := fun ns b l => by unfold pickL; exact List.length_filter_le _ _
  split
  · exact hp _ _ _
  · split
    · exact Nat.le_trans (hp _ _ _) (hp _ _ _)
    · exact Nat.zero_le _
theorem own_later {w w' : World} {base : Nat} {e : TypeId} {s n : Nat} {v : Value} {xs : List Value} (h : w.ownsRow base e s v n xs) (hb : Below w.heap.size w w') : w'.ownsRow base e s v n xs :=
  h.kept (below_grownBy' hb) (by cases v.ownBlock with | none => exact .inl rfl | some g => exact .inr (by simp))
def kx (K : List (List Lb)) (i : Nat) : List Lb := K.getD i []
theorem senc_keys : ∀ (K : List (List Lb)), (K.map keyL).flatMap senc1 = K.map fun g => Value.string (keyL g)
  | [] => rfl
  | g :: K => by rw [List.map_cons, List.flatMap_cons, senc_keys K]; rfl
theorem outP_len (op : Int) (k : Nat) (gl : Pt → List Lb) (ps : List Pt) (g : List Lb) {n : Nat} (h : ps.length ≤ n) (h1 : 1 ≤ n) : (outP op k gl ps g).length ≤ n := by
  unfold outP
  split
  · rw [List.length_take]
    have h2 := (stab_perm (aheadP op) (membG gl ps g)).length_eq
    have h3 : (membG gl ps g).length ≤ ps.length := List.length_filter_le _ _
    omega
  · exact h1
theorem outs_len (op : Int) (k : Nat) (gl : Pt → List Lb) {ps : List Pt} {n : Nat} (h : ps.length ≤ n) (h1 : 1 ≤ n) : ∀ K : List (List Lb), (K.flatMap (outP op k gl ps)).length ≤ K.length * n
  | [] => by simp
  | g :: K => by
    rw [List.flatMap_cons, List.length_append, List.length_cons, Nat.add_mul]
    have := outP_len op k gl ps g h h1
    have := outs_len op k gl h h1 K
    omega
theorem OV.appendAll {w w' : World} {base : Nat} {v v' : Value} {ps : List Pt} {zs ys : List ZPt} (h1 : zs.map (·.2) = ps) (h3 : ∀ z ∈ zs, ZOk w v.ownBlock z) (hy : ∀ z ∈ ys, ZOk w v.ownBlock z)
    (ho : w'.ownsRow base 42 2 v' (ps.length + ys.length) (zs.flatMap zenc ++ ys.flatMap zenc)) (hg : w.grownBy w' v.ownBlock) (hat : v'.ownBlock = v.ownBlock ∨ v'.ownBlock = some w.heap.size) : OV w' base v' (ps ++ ys.map (·.2)) := by
  have key : ∀ z, ZOk w v.ownBlock z → ZOk w' v'.ownBlock z := by
    intro z h
    refine ⟨(h.grown hg).1, fun hx he => ?_⟩
    rcases hat with e | e
    · exact h.2 hx (by rw [he, e])
    · obtain ⟨b, e1, e2⟩ := h.1.lt hx
      rw [e1, e] at he
      injection he with he
      omega
  refine ⟨zs ++ ys, by simp [h1], ?_, fun y hyy => ?_⟩
  · rw [List.length_append, List.flatMap_append, List.length_map]
    exact ho
  · rcases List.mem_append.1 hyy with hyy | hyy
    · exact key y (h3 y hyy)
    · exact key y (hy y hyy)
theorem outs_take (op : Int) (k : Nat) (gl : Pt → List Lb) (ps : List Pt) (K : List (List Lb)) (j : Nat) (h : j < K.length) : (K.take (j + 1)).flatMap (outP op k gl ps) = (K.take j).flatMap (outP op k gl ps) ++ outP op k gl ps (kx K j) := by
  rw [List.take_succ_eq_append_getElem h, List.flatMap_append, kx, List.getD_eq_getElem?_getD, List.getElem?_eq_getElem h]
  simp
/-- A group's chosen points, as they read. -/
theorem chosen_read (op how : Int) (k : Nat) (names : List ByteArray) {zs : List ZPt} {ps : List Pt} (h : zs.map (·.2) = ps) (g : List Lb) :
    ((stabF (aheadZ op) (membG (glZ how names) zs g)).take (cntN k (membG (glZ how names) zs g).length)).map (·.2) = (stabF (aheadP op) (membG (glP how names) ps g)).take (cntN k (membG (glP how names) ps g).length) := by
  have h1 : (membG (glZ how names) zs g).map (·.2) = membG (glP how names) ps g := by rw [← h]; exact memb_map (fun z : ZPt => z.2) (glP how names) zs g
  have h2 : (membG (glZ how names) zs g).length = (membG (glP how names) ps g).length := by rw [← h1, List.length_map]
  rw [List.map_take, h2]
  congr 1
  rw [← h1]
  exact stab_map (fun z : ZPt => z.2) (aheadP op) _
theorem group_S (v vn : Value) (how : Int) (l : List Lb) (names : List ByteArray) (w : World) (h : Sl lenc w v l) (hn : Sl senc1 w vn names) (hl : l.length ≤ 100000) :
    Calls Tryd.prog 50 #[v, .agg #[.int .i64 how, vn]] w fun e w' => ∃ a n c, e = .returned (.slice a n c) ∧ Sl lenc w' (.slice a n c) (groupL how names l) ∧ (∀ k, (Value.slice a n c).ownBlock = some k → w.heap.size ≤ k) ∧ Below w.heap.size w w' := by
  refine (group_own v vn how l names w h hn hl).mono ?_
  rintro e w' ⟨v', rfl, ho, hb⟩
  have hs : Sl lenc w' v' (groupL how names l) := Sl.own lenc_len (by decide) ho
  obtain ⟨a, c, rfl, h1⟩ := id hs
  exact ⟨a, _, c, rfl, hs, fun k hk => (ho.lt k hk).1, hb⟩
theorem one_S (op : Int) (v : Value) (vals : List Nat) (w : World) (h : Sl fenc1 w v vals) (hne : vals ≠ []) (hl : vals.length ≤ 1000000) :
    Calls Tryd.prog 52 #[.int .i64 op, v] w fun e w' => ∃ x, e = .returned (.float .f64 x) ∧ canon x = canon (oneF op vals) ∧ Below w.heap.size w w' := by
  refine (one_any op v vals w h hne hl).mono ?_
  rintro e w' ⟨x, rfl, hx, n, rfl⟩
  exact ⟨x, rfl, hx, below_drewN (Below.refl _ _) n⟩
theorem Tryd.infoFl : (Tryd.prog.info? 25).map (fun i => (i.zero, i.size, i.bytes)) = some (some (.float .f64 0), 1, 8) := by kernel_rfl
theorem fl_flat : ∀ F : List ZPt, (F.map fun z => z.2.2).flatMap fenc1 = F.map fun z => Value.float .f64 z.2.2
  | [] => rfl
  | z :: F => by rw [List.map_cons, List.flatMap_cons, fl_flat F]; rfl
theorem zero_pts (w : World) : (zeroValue 26).run Tryd.prog w = .ok (.slice none 0 0) w := by rfl
set_option maxHeartbeats 16000000 in
theorem agg_go (op how : Int) (k : Nat) (vn v : Value) (names : List ByteArray) (ps : List Pt) (w : World) (h : VS w v ps) (hn : Sl senc1 w vn names) (hz : ∀ s ∈ names, s.size ≤ maxLen) (hp : ∀ p ∈ ps, PtOk p) (hl : ps.length ≤ 300) (ht : Tab w) :
    Calls Tryd.prog 13 #[.int .i64 op, .agg #[.int .i64 how, vn], .float .f64 k, v] w fun e w' => Below w.heap.size w w' ∧ AggR op how names k ps e w' := by
  obtain ⟨i0, hi, hz0, hz1, hz2⟩ := info_parts Tryd.infoPt
  obtain ⟨j0, ji, jz0, jz1, jz2⟩ := info_parts Tryd.infoStr'
  have hmm := @run_makeMap Tryd.prog
  obtain ⟨zs, hzs, hsl, hzl⟩ := h.zpts
  have hop := fun w => aggIs_any op w
  obtain ⟨ob, hob⟩ : ∃ b, b = isB op := ⟨_, rfl⟩
  rw [← hob] at hop
  have HOB := Lib.hid hob
  have HOP := Lib.hid hop
  have HCK := Lib.hid (fun w' (hb : Below w.heap.size w w') => check_any how vn names w' (hn.below hb (Nat.le_refl _)) hz)
  have HSN := Lib.hid hn
  obtain ⟨an, cn, rfl, hlen, -⟩ := hn.strings
  have HPS := Lib.hid hzs
  have HOK := Lib.hid hp
  have HTB := Lib.hid ht
  have HZL := Lib.hid hzl
  have HL := Lib.hid (show zs.length ≤ 300 from by have := congrArg List.length hzs; simp at this; omega)
  obtain ⟨av, cv, rfl, hlv, -, hcv⟩ := hsl.split zenc_len
  have HSL := Lib.hid hsl
  have HCV := Lib.hid hcv
  clear hob hop hn hz h hzs hp ht hzl hsl hcv hl
  obtain ⟨nn, hnn⟩ : ∃ n, n = names.length := ⟨_, rfl⟩
  rw [← hnn] at HCK HSN hlen ⊢
  have HNN := Lib.hid hnn
  clear hnn
  obtain ⟨N, hN⟩ : ∃ n, n = zs.length := ⟨_, rfl⟩
  rw [← hN] at HSL hlv HL ⊢
  have hNl : N ≤ 300 := HL.out
  have HN := Lib.hid hN
  clear hN
  cases ob with
  | false =>
    go_enter Tryd.func13, Tryd.ntmps13
    go_wp2_with fail
    refine (HOP.out _).mono ?_
    rintro e w1 ⟨rfl, rfl⟩
    go_wp2_with fail
    go_ret2
    exact ⟨(Below.refl _ _).alloc (Nat.le_refl _) _, .inl ⟨.inl HOB.out.symm, rfl⟩⟩
  | true =>
    obtain ⟨ck, hck⟩ : ∃ c, c = chkL how names := ⟨_, rfl⟩
    rw [← hck] at HCK
    have HC0 := Lib.hid hck
    by_cases hc0 : ck = 0
    · subst hc0
      clear hck
      go_enter Tryd.func13, Tryd.ntmps13
      go_wp2_with fail
      refine (HOP.out _).mono ?_
      rintro e w1 ⟨rfl, rfl⟩
      go_wp2_with fail
      refine (HCK.out _ ((Below.refl _ _).alloc (Nat.le_refl _) _)).mono ?_
      rintro e w1 ⟨rfl, hb1⟩
      have HB1 := Lib.hid (((Below.refl w.heap.size w).alloc (Nat.le_refl _) (.cells #[.int .i64 how, .slice an nn cn] 24)).trans (hb1.mono (by simp)))
      have g0 : w1.cell? ⟨w.heap.size, 0, none⟩ = some (.int .i64 how) := cell_below hb1 (Nat.le_refl _) (by simp)
      have g1 : w1.cell? ⟨w.heap.size, 1, none⟩ = some (.slice an nn cn) := cell_below hb1 (Nat.le_refl _) (by simp)
      obtain ⟨bg, hbg⟩ : ∃ b, b = w.heap.size := ⟨_, rfl⟩
      rw [← hbg] at g0 g1 ⊢
      have hbg1 : bg < w1.heap.size := World.block_lt_of_cell? w1 _ g0
      have G0 := Lib.hid g0
      have G1 := Lib.hid g1
      have HBG := Lib.hid hbg
      clear hb1 g0 g1 hbg HCK HOP
      go_wp2_with fail
      have hn1 : w1.heap.size ≠ bg := by omega
      have HGOK := Lib.hid (fun (z : ZPt) (hzz : z ∈ zs) => (show z.2.1.length ≤ 1000 ∧ SizesOk z.2.1 ∧ FB z.2.2 from HOK.out z.2 (by rw [← HPS.out]; exact List.mem_map_of_mem hzz)))
      go_loopw [12, 36] (fun vk i wr => ∃ (j : Nat) (V : ByteArray → Value), j ≤ N ∧ i = .int .i64 j ∧ Hid (wr.ownsRow (w1.heap.size + 1) 9 1 vk (firstsG (glZ how names) (zs.take j)).length ((firstsG (glZ how names) (zs.take j)).map fun g => Value.string (keyL g))) ∧ Hid (GMap wr (w1.heap.size + 1) w1.heap.size j (fun s => grpB (glZ how names) (zs.take j) s) V) ∧ Hid (Below w1.heap.size w1 wr)) (fun _ i _ => N - (intOf i).toNat)
      case atStart => exact ⟨0, _, Nat.zero_le _, rfl, World.ownsRow_nil _ _ _ _, GMap.made w1, (Below.refl _ _).alloc (Nat.le_refl _) _⟩
      case round =>
        obtain ⟨j, V, hj, rfl, HK, HG, HB⟩ := hrel
        have hBz := HB.out.size
        have h00 : (0 : Int) ≤ (j : Int) := by omega
        by_cases hlt : j < N
        · have hltz : (j : Int) < (N : Int) := by omega
          have hjz : j < zs.length := by have := HN.out; omega
          obtain ⟨b, off, rfl, hd⟩ := HCV.out j hjz
          have hbw : Below w.heap.size w wr := HB1.out.trans (HB.out.mono HB1.out.size)
          obtain ⟨z, hzj⟩ : ∃ z, z = zs[j] := ⟨_, rfl⟩
          have hzm : z ∈ zs := by rw [hzj]; exact List.getElem_mem hjz
          rw [← hzj] at hd
          have hslz := (HZL.out z hzm).below hbw (Nat.le_refl _)
          obtain ⟨lv, zl, zb⟩ := z
          have q0 : wr.cell? ⟨b, off + j * 2, none⟩ = some lv := cell_below hbw (Nat.le_refl _) (hd 0 _ rfl)
          have q1 : wr.cell? ⟨b, off + j * 2 + 1, none⟩ = some (.float .f64 zb) := cell_below hbw (Nat.le_refl _) (hd 1 _ rfl)
          obtain ⟨a2, n2, c2, rfl⟩ : ∃ a2 n2 c2, lv = .slice a2 n2 c2 := by
            obtain ⟨a2, c2, e, -⟩ := hslz
            exact ⟨a2, _, c2, e⟩
          have G0' := cell_below HB.out (Nat.le_refl _) G0.out
          have G1' := cell_below HB.out (Nat.le_refl _) G1.out
          have hbl : b < wr.heap.size := World.block_lt_of_cell? wr _ q0
          have hbgl : bg < wr.heap.size := World.block_lt_of_cell? wr _ G0'
          have hbne : bg ≠ wr.heap.size := by omega
          have HGRP := Lib.hid (fun w' (hb : Below wr.heap.size wr w') => group_any (.slice a2 n2 c2) (.slice an nn cn) how zl names w' (hslz.below hb (Nat.le_refl _)) ((HSN.out.below hbw (Nat.le_refl _)).below hb (Nat.le_refl _)) (by have := (HGOK.out _ hzm).1; simp at this; omega))
          have HZJ := Lib.hid hzj
          have HZM := Lib.hid hzm
          have HS := Lib.hid hslz
          have HBW := Lib.hid hbw
          clear hd hzj hzm hslz hbw
          go_wp2_with fail
          refine (HGRP.out _ ((Below.refl _ _).alloc (Nat.le_refl _) _)).mono ?_
          rintro e w4 ⟨vg, rfl, hsg, hb4⟩
          obtain ⟨ag, cg, rfl, -, -⟩ := hsg.len lenc_pos
          have hb4' : Below wr.heap.size wr w4 := ((Below.refl wr.heap.size wr).alloc (Nat.le_refl _) (.cells #[.slice a2 n2 c2, .float .f64 zb] 42)).trans (hb4.mono (by simp))
          have p0 : w4.cell? ⟨wr.heap.size, 0, none⟩ = some (.slice a2 n2 c2) := cell_below hb4 (Nat.le_refl _) (by simp)
          have p1 : w4.cell? ⟨wr.heap.size, 1, none⟩ = some (.float .f64 zb) := cell_below hb4 (Nat.le_refl _) (by simp)
          obtain ⟨gz, hgz⟩ : ∃ g, g = groupL how names zl := ⟨_, rfl⟩
          rw [← hgz] at hsg ⊢
          have hgok : SizesOk gz := by rw [hgz]; exact SizesOk.group (HGOK.out _ HZM.out).2.1 how names
          have hgl : gz.length ≤ 1000 := by rw [hgz]; exact Nat.le_trans (group_len _ _ _) (HGOK.out _ HZM.out).1
          have HKEY := Lib.hid (key_any _ gz w4 hsg (by omega) hgok (HTB.out.below (HBW.out.trans (hb4'.mono HBW.out.size)) (Nat.le_refl _)))
          have HB4 := Lib.hid hb4'
          have HGZ := Lib.hid hgz
          have HGK := Lib.hid hgok
          have hks : (keyL gz).size ≤ maxLen := by
            have := keyBytes_len hgok
            show (keyBytes gz).toArray.size ≤ _
            rw [List.size_toArray]
            unfold maxLen
            omega
          have HKS := Lib.hid hks
          obtain ⟨gzl, hgzl⟩ : ∃ n, n = gz.length := ⟨_, rfl⟩
          rw [← hgzl] at HKEY ⊢
          clear hb4 hb4' hgz hgok hsg hgl hgzl hks HGRP
          go_wp2_with fail
          refine HKEY.out.mono ?_
          rintro e w5 ⟨rfl, hb5⟩
          have hb5' : Below wr.heap.size wr w5 := HB4.out.trans (hb5.mono HB4.out.size)
          have r0 : w5.cell? ⟨wr.heap.size, 0, none⟩ = some (.slice a2 n2 c2) := cell_below hb5 (Nat.le_refl _) p0
          have r1 : w5.cell? ⟨wr.heap.size, 1, none⟩ = some (.float .f64 zb) := cell_below hb5 (Nat.le_refl _) p1
          have hG5 := HG.out.below hb5' (Nat.le_refl _)
          have hK5 := own_later HK.out hb5'
          obtain ⟨s, hs⟩ : ∃ s, s = keyL gz := ⟨_, rfl⟩
          have hks := HKS.out
          rw [← hs] at hks ⊢
          have hlk := hG5.m.lookOk Tryd.underlying70 (zero_pts _) hks
          have hlk2 := hG5.m.look Tryd.underlying70 (zero_pts _) hks
          obtain ⟨hd, hhd⟩ : ∃ b, b = decide (gz ∈ firstsG (glZ how names) (zs.take j)) := ⟨_, rfl⟩
          have hhad : (!(grpB (glZ how names) (zs.take j) s).isEmpty) = hd := by
            have h1 := grp_had (glZ how names) (k := j) (zs := zs) (by have := HN.out; omega) (fun z hzz => SizesOk.group (HGOK.out z hzz).2.1 how names)
            have h2 : glZ how names (zs[j]'(by have := HN.out; omega)) = gz := by rw [← HZJ.out, HGZ.out]; rfl
            rw [h2] at h1
            rw [hs, hhd, h1]
          rw [hhad] at hlk
          have HLK := Lib.hid hlk
          have HLK2 := Lib.hid hlk2
          have HHD := Lib.hid hhd
          have HHAD := Lib.hid hhad
          have HSS := Lib.hid hs
          have HG5 := Lib.hid hG5
          have HK5 := Lib.hid hK5
          have HB5 := Lib.hid hb5'
          have hz5 : wr.heap.size < w5.heap.size := World.block_lt_of_cell? w5 _ r0
          clear hhd hhad hs hG5 hK5 hb5 hb5' hlk hlk2 p0 p1 hks HKEY
          cases hd with
          | true =>
            have hG6 := HG5.out
            have hK6 := HK5.out
            have hB6 := HB.out.trans (HB5.out.mono hBz)
            obtain ⟨w6, hw6⟩ : ∃ w6, w6 = w5 := ⟨_, rfl⟩
            rw [← hw6] at hG6 hK6 hB6 HLK r0 r1 hz5 ⊢
            clear hw6
            have HG6 := Lib.hid hG6
            have HK6 := Lib.hid hK6
            have HB6 := Lib.hid hB6
            have HKS6 := Lib.hid (show s.size ≤ maxLen by rw [HSS.out]; exact HKS.out)
            have HLK6 := Lib.hid (hG6.m.look Tryd.underlying70 (zero_pts _) HKS6.out)
            obtain ⟨F, hF⟩ : ∃ F, F = grpB (glZ how names) (zs.take j) s := ⟨_, rfl⟩
            have hr6 : w6.ownsRow (w1.heap.size + 1) 42 2 (V s) (grpB (glZ how names) (zs.take j) s).length ((grpB (glZ how names) (zs.take j) s).flatMap zenc) := hG6.r s
            have hFl : F.length ≤ 1000 := by rw [hF]; exact Nat.le_trans (List.length_filter_le _ _) (by rw [List.length_take]; omega)
            rw [← hF] at hr6
            have HR6 := Lib.hid hr6
            have HF := Lib.hid hF
            have hz6 := hB6.size
            clear hG6 hK6 hB6 hr6 hF
            go_wp2_with (first
              | (at_lookup; refine wpList_lookup_of _ rfl _ _ _ true rfl _ _ _ rfl rfl HLK.out ?_)
              | (at_lookup; refine wpList_lookup_of _ rfl _ _ _ false rfl _ _ _ rfl rfl HLK6.out ?_)
              | (at_builtin
                 refine wpList_append_own_at _ rfl (.tmp 61) (.tmp 63) _ rfl (w1.heap.size + 1) 42 i0 _ 2 32 Tryd.underlying26 hi hz0 hz1 hz2 rfl (by decide) (V s) F.length (F.flatMap zenc) rfl (World.ownsRow.alloc HR6.out _) ⟨w6.heap.size, 0, none⟩ 1 1 [.slice a2 n2 c2, .float .f64 zb] rfl rfl (World.news_of_block (heap_new w6 _)) (by intro u hu; simp at hu; rcases hu with rfl | rfl <;> rfl) (by unfold maxLen; omega) (by omega) (by simp; omega) ?_
                 intro v' w7 hown' hgrow hnil hat
                 have hput := (HG6.out.below ((Below.refl w6.heap.size w6).alloc (Nat.le_refl _) (.cells #[.slice a2 n2 c2, .float .f64 zb] 42)) (Nat.le_refl _)).put (s := s) (v' := v') (zs := F ++ [(.slice a2 n2 c2, zl, zb)]) (n := j) HKS6.out (by unfold maxLen; omega) (by simp) hgrow (by rw [List.flatMap_append, List.length_append]; exact hown') (by rcases hat with e | e; exact .inl e; exact .inr ⟨_, e, Nat.le_refl _⟩)
                 have HPUT := Lib.hid hput
                 have HGR7 := Lib.hid hgrow
                 clear hput hown' hgrow hnil hat)
              | (at_mapUpdate; refine wpList_mapUpdate_of _ rfl _ _ _ _ rfl _ _ _ rfl rfl rfl HPUT.out ?_; rintro w8 ⟨hG8, hg8⟩))
            have hk7 := (World.ownsRow.alloc HK6.out (.cells #[.slice a2 n2 c2, .float .f64 zb] 42)).kept HGR7.out (rows_apart HK6.out HR6.out (by decide))
            have hk8 := hk7.kept hg8 (by
              cases hq : u12.ownBlock with
              | none => exact .inl rfl
              | some g =>
                have := (hk7.lt g hq).1
                exact .inr (fun e => by injection e with e; omega))
            have hb8 : Below w1.heap.size w1 w8 := ((HB6.out.alloc (by omega) _).grown HGR7.out (by simp; omega) (fun q hq => by have := (HR6.out.lt q hq).1; omega)).grown hg8 (by have := HGR7.out.size; simp at this; omega) (fun q hq => by injection hq with hq; omega)
            have hG9 : GMap w8 (w1.heap.size + 1) w1.heap.size (j + 1) (fun s => grpB (glZ how names) (zs.take (j + 1)) s) (upd V s v') := by
              have h1 := grp_take (glZ how names) zs j (by have := HN.out; omega)
              have h2 : zs[j]'(by have := HN.out; omega) = (.slice a2 n2 c2, zl, zb) := HZJ.out.symm
              have h3 : keyL (glZ how names (.slice a2 n2 c2, zl, zb)) = s := by rw [HSS.out, HGZ.out]; rfl
              rw [h2, h3, ← HF.out] at h1
              rw [h1]; exact hG8
            have HK8 := Lib.hid hk8
            have HB8 := Lib.hid hb8
            have HG9 := Lib.hid hG9
            clear hk7 hk8 hb8 hG9 hG8 hg8
            go_wp2_with fail
            go_roundw
            case rel => exact ⟨j + 1, upd V s v', by omega, by go_num, (by
              have h1 := firsts_take (glZ how names) zs j (by have := HN.out; omega)
              have h2 : glZ how names (zs[j]'(by have := HN.out; omega)) = gz := by rw [← HZJ.out, HGZ.out]; rfl
              rw [h2] at h1
              rw [if_pos (of_decide_eq_true HHD.out.symm)] at h1
              rw [h1]; exact HK8.out), HG9.out, HB8.out⟩
            case measure => simp [intOf]; omega
          | false =>
            have HFL := Lib.hid (show (firstsG (glZ how names) (zs.take j)).length ≤ 1000 from Nat.le_trans (firsts_len _ _) (by rw [List.length_take]; omega))
            go_wp2_with (first
              | (at_lookup; refine wpList_lookup_of _ rfl _ _ _ true rfl _ _ _ rfl rfl HLK.out ?_)
              | (at_lookup; refine wpList_lookup_of _ rfl _ _ _ false rfl _ _ _ rfl rfl HLK6.out ?_)
              | (at_builtin
                 refine wpList_append_own _ rfl (.tmp 53) (.tmp 55) _ rfl (w1.heap.size + 1) 9 j0 _ 1 16 Tryd.underlying22 ji jz0 jz1 jz2 rfl (by decide) _ _ _ rfl (World.ownsRow.alloc HK5.out _) ⟨w5.heap.size, 0, none⟩ 1 1 [.string s] rfl rfl (World.news_of_block (heap_new w5 _)) (by intro u hu; simp at hu; subst hu; rfl) (by have := HFL.out; unfold maxLen; omega) (by have := HFL.out; omega) (by simp; omega) ?_
                 intro vk6 w6 hk6 hgk6 _
                 have hb6w : Below w5.heap.size w5 (w5.alloc (.cells #[.string s] 9)) := (Below.refl _ _).alloc (Nat.le_refl _) _
                 have hu12 : some wr.heap.size ≠ u12.ownBlock := fun q => by have := (HK.out.lt _ q.symm).2; omega
                 have hG6 := (HG5.out.below hb6w (Nat.le_refl _)).beside (World.ownsRow.alloc HK5.out (.cells #[.string s] 9)) (by decide) hgk6
                 have hK6 := hk6
                 have r0 := hgk6.cell (cell_below hb6w (Nat.le_refl _) r0) hu12
                 have r1 := hgk6.cell (cell_below hb6w (Nat.le_refl _) r1) hu12
                 have hB6 : Below w1.heap.size w1 w6 := ((HB.out.trans (HB5.out.mono hBz)).alloc (by omega) _).grown hgk6 (by simp; omega) (fun q hq => by have := (HK.out.lt q hq).1; omega)
                 have HG6 := Lib.hid hG6
                 have HK6 := Lib.hid hK6
                 have HB6 := Lib.hid hB6
                 have HKS6 := Lib.hid (show s.size ≤ maxLen by rw [HSS.out]; exact HKS.out)
                 have HLK6 := Lib.hid (hG6.m.look Tryd.underlying70 (zero_pts _) HKS6.out)
                 obtain ⟨F, hF⟩ : ∃ F, F = grpB (glZ how names) (zs.take j) s := ⟨_, rfl⟩
                 have hr6 : w6.ownsRow (w1.heap.size + 1) 42 2 (V s) (grpB (glZ how names) (zs.take j) s).length ((grpB (glZ how names) (zs.take j) s).flatMap zenc) := hG6.r s
                 have hFl : F.length ≤ 1000 := by rw [hF]; exact Nat.le_trans (List.length_filter_le _ _) (by rw [List.length_take]; omega)
                 rw [← hF] at hr6
                 have HR6 := Lib.hid hr6
                 have HF := Lib.hid hF
                 have hz6 := hB6.size
                 clear hG6 hK6 hB6 hr6 hF
                 clear hk6 hgk6 hb6w hu12)
              | (at_builtin
                 refine wpList_append_own_at _ rfl (.tmp 61) (.tmp 63) _ rfl (w1.heap.size + 1) 42 i0 _ 2 32 Tryd.underlying26 hi hz0 hz1 hz2 rfl (by decide) (V s) F.length (F.flatMap zenc) rfl (World.ownsRow.alloc HR6.out _) ⟨w6.heap.size, 0, none⟩ 1 1 [.slice a2 n2 c2, .float .f64 zb] rfl rfl (World.news_of_block (heap_new w6 _)) (by intro u hu; simp at hu; rcases hu with rfl | rfl <;> rfl) (by unfold maxLen; omega) (by omega) (by simp; omega) ?_
                 intro v' w7 hown' hgrow hnil hat
                 have hput := (HG6.out.below ((Below.refl w6.heap.size w6).alloc (Nat.le_refl _) (.cells #[.slice a2 n2 c2, .float .f64 zb] 42)) (Nat.le_refl _)).put (s := s) (v' := v') (zs := F ++ [(.slice a2 n2 c2, zl, zb)]) (n := j) HKS6.out (by unfold maxLen; omega) (by simp) hgrow (by rw [List.flatMap_append, List.length_append]; exact hown') (by rcases hat with e | e; exact .inl e; exact .inr ⟨_, e, Nat.le_refl _⟩)
                 have HPUT := Lib.hid hput
                 have HGR7 := Lib.hid hgrow
                 clear hput hown' hgrow hnil hat)
              | (at_mapUpdate; refine wpList_mapUpdate_of _ rfl _ _ _ _ rfl _ _ _ rfl rfl rfl HPUT.out ?_; rintro w8 ⟨hG8, hg8⟩))
            have hk7 := (World.ownsRow.alloc HK6.out (.cells #[.slice a2 n2 c2, .float .f64 zb] 42)).kept HGR7.out (rows_apart HK6.out HR6.out (by decide))
            have hk8 := hk7.kept hg8 (by
              cases hq : vk6.ownBlock with
              | none => exact .inl rfl
              | some g =>
                have := (hk7.lt g hq).1
                exact .inr (fun e => by injection e with e; omega))
            have hb8 : Below w1.heap.size w1 w8 := ((HB6.out.alloc (by omega) _).grown HGR7.out (by simp; omega) (fun q hq => by have := (HR6.out.lt q hq).1; omega)).grown hg8 (by have := HGR7.out.size; simp at this; omega) (fun q hq => by injection hq with hq; omega)
            have hG9 : GMap w8 (w1.heap.size + 1) w1.heap.size (j + 1) (fun s => grpB (glZ how names) (zs.take (j + 1)) s) (upd V s v') := by
              have h1 := grp_take (glZ how names) zs j (by have := HN.out; omega)
              have h2 : zs[j]'(by have := HN.out; omega) = (.slice a2 n2 c2, zl, zb) := HZJ.out.symm
              have h3 : keyL (glZ how names (.slice a2 n2 c2, zl, zb)) = s := by rw [HSS.out, HGZ.out]; rfl
              rw [h2, h3, ← HF.out] at h1
              rw [h1]; exact hG8
            have HK8 := Lib.hid hk8
            have HB8 := Lib.hid hb8
            have HG9 := Lib.hid hG9
            clear hk7 hk8 hb8 hG9 hG8 hg8
            go_wp2_with fail
            go_roundw
            case rel => exact ⟨j + 1, upd V s v', by omega, by go_num, (by
              have h1 := firsts_take (glZ how names) zs j (by have := HN.out; omega)
              have h2 : glZ how names (zs[j]'(by have := HN.out; omega)) = gz := by rw [← HZJ.out, HGZ.out]; rfl
              rw [h2] at h1
              rw [if_neg (of_decide_eq_false HHD.out.symm)] at h1
              rw [h1, List.length_append, List.map_append]
              have h3 := HK8.out
              rw [HSS.out] at h3
              exact h3), HG9.out, HB8.out⟩
            case measure => simp [intOf]; omega
        · have hltz : ¬ (j : Int) < (N : Int) := by omega
          -- LOOP2
          obtain rfl : j = N := by omega
          obtain ⟨K, hK⟩ : ∃ K, K = firstsG (glZ how names) zs := ⟨_, rfl⟩
          have hzt : zs.take j = zs := List.take_of_length_le (by have := HN.out; omega)
          have hk := HK.out
          rw [hzt, ← hK] at hk
          have hsk : Sl senc1 wr u12 (K.map keyL) := Sl.own (n := K.length) senc1_len (by decide) (by rw [senc_keys]; exact hk)
          have hG := HG.out
          simp only [hzt] at hG
          have HGG := Lib.hid hG
          have HKK := Lib.hid hK
          obtain ⟨ak, ck2, rfl, hlk, hck⟩ := hsk.strings
          have hck2 : ∀ i, i < K.length → ∃ b off, ak = some ⟨b, off, none⟩ ∧ wr.cell? ⟨b, off + i, none⟩ = some (.string (keyL (kx K i))) := fun i hi => by
            obtain ⟨b, off, e, hd⟩ := hck i (by simpa using hi)
            refine ⟨b, off, e, ?_⟩
            rw [hd i (by simpa using hi), List.getElem_map, kx, List.getD_eq_getElem?_getD, List.getElem?_eq_getElem hi]
            rfl
          have HCK := Lib.hid hck2
          rw [List.length_map] at hlk ⊢
          obtain ⟨M, hM⟩ : ∃ M, M = K.length := ⟨_, rfl⟩
          rw [← hM] at hlk ⊢
          have HM := Lib.hid hM
          have hMl : M ≤ 300 := by rw [hM, hK]; exact Nat.le_trans (firsts_len _ _) (by have := HN.out; omega)
          have HBR := Lib.hid (HB1.out.trans (HB.out.mono HB1.out.size))
          clear hk hsk hG hK hzt hck hck2 HK HG hltz hM hlt hj
          go_wp2_with fail
          obtain ⟨W, hW⟩ : ∃ W, W = wr := ⟨_, rfl⟩
          rw [← hW] at HB HGG HCK hBz HBR ⊢
          clear hW
          go_loopw [18, 68] (fun out i wr2 => ∃ (j2 : Nat) (qs : List Pt), j2 ≤ M ∧ i = .int .i64 j2 ∧ Hid (OV wr2 W.heap.size out qs) ∧ Hid (qs.map canonP = ((K.take j2).flatMap (outP op k (glP how names) ps)).map canonP) ∧ Hid (Below W.heap.size W wr2)) (fun _ i _ => M - (intOf i).toNat)
          case atStart => exact ⟨0, [], Nat.zero_le _, rfl, OV.nil _ _, rfl, Below.refl _ _⟩
          case round =>
            obtain ⟨j2, qs, hj2, rfl, HO, HQ, HB2⟩ := hrel
            have hB2z := HB2.out.size
            have h02 : (0 : Int) ≤ (j2 : Int) := by omega
            have hql : qs.length ≤ 90000 := by
              have h1 := congrArg List.length HQ.out
              rw [List.length_map, List.length_map] at h1
              have h2 := outs_len op k (glP how names) (ps := ps) (n := 300) (by have h3 := HL.out; have h5 := HN.out; have h4 := congrArg List.length HPS.out; simp at h4; omega) (by decide) (K.take j2)
              have h3 : (K.take j2).length ≤ 300 := by rw [List.length_take]; omega
              have h4 := Nat.mul_le_mul_right 300 h3
              omega
            by_cases hlt2 : j2 < M
            · have hltz2 : (j2 : Int) < (M : Int) := by omega
              obtain ⟨bk, offk, rfl, kc⟩ := HCK.out j2 (by have := HM.out; omega)
              have kc2 := cell_below HB2.out (Nat.le_refl _) kc
              obtain ⟨g, hg⟩ : ∃ g, g = kx K j2 := ⟨_, rfl⟩
              rw [← hg] at kc2
              have hgK : g ∈ firstsG (glZ how names) zs := by
                rw [hg, kx, List.getD_eq_getElem?_getD, List.getElem?_eq_getElem (by have := HM.out; omega), ← HKK.out]
                exact List.getElem_mem _
              have hgs : SizesOk g := by
                obtain ⟨z, hzz, e⟩ := (mem_firsts _ _ _).1 hgK
                rw [← e]; exact SizesOk.group (HGOK.out z hzz).2.1 how names
              have hgl : (keyL g).size ≤ maxLen := by
                have h1 := keyBytes_len hgs
                have h2 : g.length ≤ 1000 := by
                  obtain ⟨z, hzz, e⟩ := (mem_firsts _ _ _).1 hgK
                  rw [← e]; exact Nat.le_trans (group_len _ _ _) (HGOK.out z hzz).1
                show (keyBytes g).toArray.size ≤ _
                rw [List.size_toArray]
                unfold maxLen
                omega
              obtain ⟨F, hF⟩ : ∃ F, F = membG (glZ how names) zs g := ⟨_, rfl⟩
              have hFe : grpB (glZ how names) zs (keyL g) = F := by rw [hF]; exact grp_memb _ (fun z hzz => SizesOk.group (HGOK.out z hzz).2.1 how names) hgs
              have hFn : F ≠ [] := by rw [hF]; exact memb_ne _ hgK
              have hFm : ∀ z ∈ F, z ∈ zs := fun z hzz => by rw [hF] at hzz; exact (memb_mem _ hzz).1
              have hFl : F.length ≤ 300 := by rw [hF]; exact Nat.le_trans (List.length_filter_le _ _) (by have := HN.out; omega)
              have hrow : W.ownsRow (w1.heap.size + 1) 42 2 (V (keyL g)) F.length (F.flatMap zenc) := by rw [← hFe]; exact HGG.out.r (keyL g)
              have hlk2 := (HGG.out.below HB2.out (Nat.le_refl _)).m.look Tryd.underlying70 (zero_pts _) hgl
              obtain ⟨vin, hvin⟩ : ∃ v, v = V (keyL g) := ⟨_, rfl⟩
              rw [← hvin] at hrow hlk2
              obtain ⟨s, hs⟩ : ∃ s, s = keyL g := ⟨_, rfl⟩
              rw [← hs] at kc2 hlk2
              have HLK := Lib.hid hlk2
              have hsF : Sl zenc W vin F := Sl.own zenc_len (by decide) hrow
              obtain ⟨fn, hfn⟩ : ∃ n, n = F.length := ⟨_, rfl⟩
              rcases hrow.2 with ⟨-, h0⟩ | ⟨gv, cv2, cur2, rfl, hgv, -, hgc, hgc2, -, -⟩
              · exact absurd (List.eq_nil_of_length_eq_zero h0) hFn
              rw [← hfn] at hsF hgc hlk2 HLK
              have HSF := Lib.hid hsF
              have HFN := Lib.hid hFn
              have HFM := Lib.hid hFm
              have HFF := Lib.hid hF
              have HG := Lib.hid hg
              have HFL := Lib.hid hfn
              obtain ⟨tb, htb⟩ : ∃ b, b = takesB op := ⟨_, rfl⟩
              have HTK := Lib.hid (fun w => takes_any op w)
              rw [← htb] at HTK
              have HTBB := Lib.hid htb
              unfold maxLen at hgc2
              clear hsF hFn hFm hF hg hlk2 hvin hs hrow hgl hgs hgK kc hFe htb hfn
              cases tb with
              | true =>
                have hok : ∀ w', Below W.heap.size W w' → ∀ z ∈ F, Sl lenc w' z.1 z.2.1 ∧ FB z.2.2 := fun w' hb z hzz => ⟨(HZL.out z (HFM.out z hzz)).below (HBR.out.trans (hb.mono HBR.out.size)) (Nat.le_refl _), (HGOK.out z (HFM.out z hzz)).2.2⟩
                have HOKK := Lib.hid hok
                have HCH := Lib.hid (chosen_go op k _ F wr (HSF.out.below HB2.out (Nat.le_refl _)) HFN.out (hok wr HB2.out) (by have := HFL.out; omega))
                clear hok
                go_wp2_with (first | (at_lookup; refine wpList_lookup_of _ rfl _ _ _ _ rfl _ _ _ rfl rfl HLK.out ?_))
                refine (HTK.out _).mono ?_
                rintro e w4 ⟨rfl, rfl⟩
                go_wp2_with fail
                refine HCH.out.mono ?_
                rintro e w5 ⟨g5, n5, c5, rfl, hs5, hb5⟩
                obtain ⟨ys, hys⟩ : ∃ ys, ys = (stabF (aheadZ op) F).take (cntN k F.length) := ⟨_, rfl⟩
                rw [← hys] at hs5
                obtain ⟨rfl, -, hcell⟩ := Sl.src zenc_pos hs5
                obtain ⟨zs0, hz0s, hown0, hzok0⟩ := HO.out.kept hb5
                have hyF : ∀ z ∈ ys, z ∈ F := fun z hzz => by
                  rw [hys] at hzz
                  exact (stab_perm _ _).subset (List.mem_of_mem_take hzz)
                have hyl : ys.length ≤ 300 := by
                  rw [hys, List.length_take]
                  have h1 := (stab_perm (aheadZ op) F).length_eq
                  have h2 := HFL.out
                  omega
                have hb25 : Below W.heap.size W w5 := HB2.out.trans (hb5.mono hB2z)
                have hyok : ∀ z ∈ ys, ZOk w5 u18.ownBlock z := fun z hzz => (ZOk.fresh (w := W) ((HZL.out z (HFM.out z (hyF z hzz))).below HBR.out (Nat.le_refl _)) (fun q hq => (hown0.lt q hq).1)).below hb25 (Nat.le_refl _)
                have hone := zenc_one (zs := ys) (w := w5) (fun z hzz => (HOKK.out w5 hb25 z (hyF z hzz)).1)
                have HYS := Lib.hid hys
                have HCELL := Lib.hid (hcell _ rfl)
                have HZ0 := Lib.hid hz0s
                have HW0 := Lib.hid hown0
                have HK0 := Lib.hid hzok0
                have HYK := Lib.hid hyok
                have HB5 := Lib.hid hb25
                have HONE := Lib.hid hone
                have hb5z := hb25.size
                obtain ⟨ny, hny⟩ : ∃ n, n = ys.length := ⟨_, rfl⟩
                rw [← hny] at hyl ⊢
                have HNY := Lib.hid hny
                clear hys hs5 hcell hz0s hown0 hzok0 hyF hyok hb25 hone hny hb5 HCH
                go_wp2_with (first
                  | (at_builtin
                     refine wpList_append_own_at _ rfl (.tmp 77) (.tmp 81) _ rfl W.heap.size 42 i0 _ 2 32 Tryd.underlying26 hi hz0 hz1 hz2 rfl (by decide) u18 qs.length (zs0.flatMap zenc) rfl HW0.out ⟨g5, 0, none⟩ ny c5 (ys.flatMap zenc) rfl (by rw [HNY.out]; exact flat_length zenc_len ys) HCELL.out HONE.out (by unfold maxLen; omega) (by omega) hb5z ?_
                     intro v' w7 hown' hgrow hnil hat
                     have hov : OV w7 W.heap.size v' (qs ++ ys.map (·.2)) := OV.appendAll HZ0.out HK0.out HYK.out (by rw [← HNY.out]; exact hown') hgrow hat
                     have hb7 : Below W.heap.size W w7 := HB5.out.grown hgrow hb5z (fun q hq => (HW0.out.lt q hq).1)
                     have HOV := Lib.hid hov
                     have HB7 := Lib.hid hb7
                     clear hown' hgrow hnil hat hov hb7))
                go_roundw
                case rel => exact ⟨j2 + 1, _, by omega, by go_num, HOV.out, by
                  show _ = _
                  rw [outs_take op k (glP how names) ps K j2 (by have := HM.out; omega), List.map_append, List.map_append, ← HQ.out]
                  congr 1
                  rw [outP, if_pos HTBB.out.symm, ← HG.out, HYS.out, HFF.out]
                  rw [chosen_read op how k names HPS.out g], HB7.out⟩
                case measure => simp [intOf]; omega
              | false =>
                go_wp2_with (first | (at_lookup; refine wpList_lookup_of _ rfl _ _ _ _ rfl _ _ _ rfl rfl HLK.out ?_))
                refine (HTK.out _).mono ?_
                rintro e w4 ⟨rfl, rfl⟩
                go_wp2_with fail
                obtain ⟨W3, hW3⟩ : ∃ W3, W3 = wr := ⟨_, rfl⟩
                rw [← hW3] at HO HB2 HLK hB2z ⊢
                clear hW3
                obtain ⟨l0, li, lz0, lz1, lz2⟩ := info_parts Tryd.infoFl
                obtain ⟨aF, cF, eF, -, -, hcF⟩ := HSF.out.split zenc_len
                injection eF with eF1 eF2 eF3
                subst eF1
                have HCF := Lib.hid hcF
                clear hcF eF2 eF3
                go_loopw [22, 85] (fun vv i wr3 => ∃ (m : Nat), m ≤ fn ∧ i = .int .i64 m ∧ Hid (wr3.ownsRow W3.heap.size 25 1 vv m ((F.take m).map fun z => Value.float .f64 z.2.2)) ∧ Hid (Below W3.heap.size W3 wr3)) (fun _ i _ => fn - (intOf i).toNat)
                case atStart => exact ⟨0, Nat.zero_le _, rfl, World.ownsRow_nil _ _ _ _, Below.refl _ _⟩
                case round =>
                  obtain ⟨m, hm, rfl, HV, HB3⟩ := hrel
                  have hB3z := HB3.out.size
                  have h03 : (0 : Int) ≤ (m : Int) := by omega
                  by_cases hlt3 : m < fn
                  · have hltz3 : (m : Int) < (fn : Int) := by omega
                    have hmF : m < F.length := by have := HFL.out; omega
                    obtain ⟨b5, off5, e5, hd⟩ := HCF.out m hmF
                    injection e5 with e5
                    injection e5 with e5 e6
                    subst e5 e6
                    obtain ⟨z, hzj⟩ : ∃ z, z = F[m] := ⟨_, rfl⟩
                    have hzm : z ∈ F := by rw [hzj]; exact List.getElem_mem hmF
                    rw [← hzj] at hd
                    have hbwr : Below W.heap.size W wr := HB2.out.trans (HB3.out.mono hB2z)
                    obtain ⟨az, cz, hsz, -, -⟩ := HZL.out z (HFM.out z hzm)
                    obtain ⟨lv, zl, zb⟩ := z
                    simp only at hsz
                    subst hsz
                    obtain ⟨nz, hnz⟩ : ∃ n, n = zl.length := ⟨_, rfl⟩
                    have q0 : wr.cell? ⟨gv, m * 2, none⟩ = some (.slice az nz cz) := by have := cell_below hbwr (Nat.le_refl _) (hd 0 _ rfl); simpa [hnz] using this
                    have q1 : wr.cell? ⟨gv, m * 2 + 1, none⟩ = some (.float .f64 zb) := by have := cell_below hbwr (Nat.le_refl _) (hd 1 _ rfl); simpa using this
                    have HZJ3 := Lib.hid (show zb = F[m].2.2 by rw [← hzj])
                    have hgvl : gv < wr.heap.size := World.block_lt_of_cell? wr _ q0
                    have hgvn : gv ≠ wr.heap.size := by omega
                    have HBWR := Lib.hid hbwr
                    clear hd hzj hzm hbwr hnz
                    go_wp2_with (first
                      | (at_builtin
                         refine wpList_append_own_at _ rfl (.tmp 89) (.tmp 92) _ rfl W3.heap.size 25 l0 _ 1 8 Tryd.underlying74 li lz0 lz1 lz2 rfl (by decide) u22 m _ rfl (World.ownsRow.alloc (World.ownsRow.alloc HV.out _) _) ⟨wr.heap.size + 1, 0, none⟩ 1 1 [.float .f64 zb] rfl rfl ?e1 (by intro u hu; simp at hu; subst hu; rfl) (by unfold maxLen; omega) (by omega) (by simp; omega) ?_
                         case e1 => exact World.news_of_block (by simpa using heap_new (wr.alloc (.cells #[.slice az nz cz, .float .f64 zb] 42)) (.cells #[.float .f64 zb] 25))
                         intro v' w7 hown' hgrow hnil hat
                         have hb7 : Below W3.heap.size W3 w7 := ((HB3.out.alloc (by omega) _).alloc (by simp; omega) _).grown hgrow (by simp; omega) (fun q hq => (HV.out.lt q hq).1)
                         have hov := hown'
                         have HOV := Lib.hid hov
                         have HB7 := Lib.hid hb7
                         clear hown' hgrow hnil hat hov hb7))
                    go_roundw
                    case rel => exact ⟨m + 1, by omega, by go_num, by
                      show World.ownsRow _ _ _ _ _ _ _
                      rw [List.take_succ_eq_append_getElem (by have := HFL.out; omega), List.map_append, List.map_cons, List.map_nil, ← HZJ3.out]
                      exact HOV.out, HB7.out⟩
                    case measure => simp [intOf]; omega
                  · obtain rfl : m = fn := by omega
                    have hltz3 : ¬ (m : Int) < (m : Int) := by omega
                    go_wp2_with fail
                    have h0F : 0 < F.length := List.length_pos_iff.2 HFN.out
                    obtain ⟨b5, off5, e5, hd⟩ := HCF.out 0 h0F
                    injection e5 with e5
                    injection e5 with e5 e6
                    subst e5 e6
                    obtain ⟨z, hzj⟩ : ∃ z, z = F[0] := ⟨_, rfl⟩
                    have hzm : z ∈ F := by rw [hzj]; exact List.getElem_mem h0F
                    rw [← hzj] at hd
                    have hgvW : gv < W.heap.size := World.block_lt_of_cell? W _ (hd 0 _ rfl)
                    have hbwr : Below W.heap.size W wr := HB2.out.trans (HB3.out.mono hB2z)
                    have hbww : Below w.heap.size w wr := HBR.out.trans (hbwr.mono HBR.out.size)
                    have hslz := (HZL.out z (HFM.out z hzm)).below hbww (Nat.le_refl _)
                    obtain ⟨lv, zl, zb⟩ := z
                    simp only at hslz
                    obtain ⟨az, cz, rfl, -, -⟩ := id hslz
                    have hgg : groupL how names zl = g := by
                      have h1 := HFF.out
                      rw [h1] at hzm
                      exact (memb_mem _ hzm).2
                    have HGRP := Lib.hid (fun w' (hb : Below wr.heap.size wr w') => group_S _ (.slice an nn cn) how zl names w' (hslz.below hb (Nat.le_refl _)) ((HSN.out.below hbww (Nat.le_refl _)).below hb (Nat.le_refl _)) (by have := (HGOK.out _ (HFM.out _ hzm)).1; simp at this; omega))
                    rw [hgg] at HGRP
                    obtain ⟨nz, hnz⟩ : ∃ n, n = zl.length := ⟨_, rfl⟩
                    rw [← hnz] at HGRP
                    have p0 : wr.cell? ⟨gv, 0, none⟩ = some (.slice az nz cz) := by have := cell_below hbwr (Nat.le_refl _) (hd 0 _ rfl); simpa [hnz] using this
                    have g0 := cell_below (HB.out.trans (hbwr.mono hBz)) (Nat.le_refl _) G0.out
                    have g1 := cell_below (HB.out.trans (hbwr.mono hBz)) (Nat.le_refl _) G1.out
                    have hvals : Sl fenc1 wr u22 (F.map fun z => z.2.2) := by
                      refine Sl.own (n := m) (base := W3.heap.size) (e := 25) fenc1_len (by decide) ?_
                      rw [fl_flat]
                      have h1 := HV.out
                      rwa [List.take_of_length_le (by have := HFL.out; omega)] at h1
                    have HONE := Lib.hid (fun w' (hb : Below wr.heap.size wr w') => one_S op u22 _ w' (hvals.below hb (Nat.le_refl _)) (by simpa using HFN.out) (by rw [List.length_map]; have := HFL.out; omega))
                    obtain ⟨zs0, hz0s, hown0, hzok0⟩ := HO.out.kept HB3.out
                    have hbgW : bg < W.heap.size := by omega
                    have hnb1 : some gv ≠ u18.ownBlock := fun e => by have := (hown0.lt _ e.symm).1; omega
                    have hnb2 : some bg ≠ u18.ownBlock := fun e => by have := (hown0.lt _ e.symm).1; omega
                    have HZ0 := Lib.hid hz0s
                    have HK0 := Lib.hid hzok0
                    have HBWR := Lib.hid hbwr
                    have hwz := hbwr.size
                    have HOW := Lib.hid hown0
                    have h0m : (0 : Int) < (m : Int) := by have := HFL.out; omega
                    have h0n : 0 < m := by omega
                    clear hd hzj hzm hbwr hbww hslz hgg hnz hvals hz0s hzok0 h0F HV HLK HTK hltz3 hltz2
                    have hbA : Below wr.heap.size wr wr := Below.refl _ _
                    go_region_held3 (fun w' => w'.cell? ⟨gv, 0, none⟩ = some (.slice az nz cz) ∧ w'.cell? ⟨bg, 0, none⟩ = some (.int .i64 how) ∧ w'.cell? ⟨bg, 1, none⟩ = some (.slice an nn cn))
                      (first
                        | exact ⟨hgrow.cell (cell_below (B := wr.heap.size) (by go_grown) (Nat.le_refl _) p0) hnb1, hgrow.cell (cell_below (B := wr.heap.size) (by go_grown) (Nat.le_refl _) g0) hnb2, hgrow.cell (cell_below (B := wr.heap.size) (by go_grown) (Nat.le_refl _) g1) hnb2⟩
                        | exact ⟨cell_below (B := wr.heap.size) (by go_grown) (Nat.le_refl _) p0, cell_below (B := wr.heap.size) (by go_grown) (Nat.le_refl _) g0, cell_below (B := wr.heap.size) (by go_grown) (Nat.le_refl _) g1⟩)
                      (first
                        | (go_at_call 50
                           refine (HGRP.out _ (by go_grown)).mono ?_
                           rintro e w9 ⟨a9, n9, c9, rfl, hs9, ha9, hb9⟩
                           have ha9 : ∀ k, (Value.slice a9 n9 c9).ownBlock = some k → wr.heap.size ≤ k := fun k hk => Nat.le_trans (show Below wr.heap.size wr _ by go_grown).size (ha9 k hk)
                           have hbA : Below wr.heap.size wr w9 := Below.trans (by go_grown) (hb9.mono (by first | exact Nat.le_refl _ | (simp; done) | (simp; omega)))
                           have hsA := hbA.size)
                        | (go_at_call 52
                           refine (HONE.out _ (by go_grown)).mono ?_
                           rintro e w8 ⟨x, rfl, hx, hb8⟩
                           have hs9 := Sl.below hs9 hb8 (Nat.le_refl _)
                           have hbA : Below wr.heap.size wr w8 := hbA.trans (hb8.mono hsA)
                           have hsA := hbA.size)
                        | (refine step_append_at rfl (.tmp 95) (.tmp 106) _ rfl W.heap.size 42 i0 _ 2 32 Tryd.underlying26 hi hz0 hz1 hz2 rfl (by decide) u18 qs.length (zs0.flatMap zenc) rfl ?_ ⟨w8.heap.size, 0, none⟩ 1 1 [.slice a9 n9 c9, .float .f64 x] rfl rfl ?_ ?_ ?_ ?_ ?_ ?_
                           (exact World.ownsRow.alloc (hown0.kept (below_grownBy' hbA) (by cases u18.ownBlock with | none => exact .inl rfl | some g => exact .inr (by simp))) _)
                           (exact World.news_of_block (heap_new w8 _))
                           (intro u hu; simp at hu; rcases hu with rfl | rfl <;> rfl)
                           (unfold maxLen; omega)
                           (omega)
                           (simp <;> omega)
                           intro v' w10 hown' hgrow hat))
                    have hbC : Below wr.heap.size wr (w8.alloc (.cells #[.slice a9 n9 c9, .float .f64 x] 42)) := hbA.alloc hsA _
                    have hov' : OV w10 W.heap.size v' (qs ++ [(g, x)]) := OV.appended (v' := v') (w' := w10) (z := (.slice a9 n9 c9, g, x)) HZ0.out (fun z hz => (HK0.out z hz).below hbC (Nat.le_refl _))
                      ⟨hs9.below ((Below.refl _ _).alloc (Nat.le_refl _) _) (Nat.le_refl _), fun hx0 he => by
                        obtain ⟨q, e1, _⟩ := hs9.lt hx0
                        have h3 := ha9 q e1
                        have h4 := (HOW.out.lt q (by rw [← he]; exact e1)).2
                        omega⟩ hown' hgrow hat
                    have hb10 : Below W.heap.size W w10 := (HBWR.out.trans (hbC.mono hwz)).grown hgrow (by simp; omega) (fun q hq => (HOW.out.lt q hq).1)
                    have HOV := Lib.hid hov'
                    have HB10 := Lib.hid hb10
                    have HXX := Lib.hid hx
                    clear hov' hb10 hbC hgrow hat hown' hown0 hs9 ha9 hb9 hbA hsA hx
                    go_wp2_with fail
                    go_roundw
                    case rel => exact ⟨j2 + 1, _, by omega, by go_num, HOV.out, by
                      show _ = _
                      rw [outs_take op k (glP how names) ps K j2 (by have := HM.out; omega), List.map_append, List.map_append, ← HQ.out]
                      congr 1
                      have h1 : (membG (glZ how names) zs g).map (·.2) = membG (glP how names) ps g := by rw [← HPS.out]; exact memb_map (fun z : ZPt => z.2) (glP how names) zs g
                      have h2 : (F.map fun z => z.2.2) = (membG (glP how names) ps g).map (·.2) := by rw [← h1, ← HFF.out, List.map_map]; rfl
                      have h3 := HXX.out
                      rw [h2] at h3
                      rw [outP, if_neg (by rw [← HTBB.out]; decide), ← HG.out]
                      show [(g, canon x)] = [(g, canon (oneF op _))]
                      rw [h3], HB10.out⟩
                    case measure => simp [intOf]; omega
            · have hltz2 : ¬ (j2 : Int) < (M : Int) := by omega
              obtain rfl : j2 = M := by omega
              have hq := HQ.out
              rw [List.take_of_length_le (by have := HM.out; omega)] at hq
              have HNM := Lib.hid (normal_any _ qs wr HO.out.vs (by omega))
              have HQQ := Lib.hid hq
              clear hq
              go_wp2_with fail
              refine HNM.out.mono ?_
              rintro e w5 ⟨hb5, hnr⟩
              obtain ⟨v5, n5, rfl⟩ := nr_tuple hnr
              have HNR := Lib.hid hnr
              have HB5 := Lib.hid (HBR.out.trans ((HB2.out.trans (hb5.mono hB2z)).mono HBR.out.size))
              clear hnr hb5 HNM
              go_wp2_with fail
              go_ret2
              refine ⟨HB5.out, .inr ⟨HOB.out.symm, HC0.out.symm, nr_congr ?_ HNR.out⟩⟩
              rw [HQQ.out, aggP, HKK.out, ← HPS.out, ← firsts_map]
              rfl
    · have hc1 : (ck == 0) = false := by simpa using hc0
      have HC1 := Lib.hid (show ck = 1 by
        have := HC0.out
        unfold chkL at this
        split at this
        · exact this
        · exact absurd this hc0)
      have HC2 := Lib.hid hc0
      clear hck hc0
      go_enter Tryd.func13, Tryd.ntmps13
      go_wp2_with fail
      refine (HOP.out _).mono ?_
      rintro e w1 ⟨rfl, rfl⟩
      go_wp2_with fail
      refine (HCK.out _ ((Below.refl _ _).alloc (Nat.le_refl _) _)).mono ?_
      rintro e w1 ⟨rfl, hb1⟩
      have HB1 := Lib.hid (((Below.refl w.heap.size w).alloc (Nat.le_refl _) (.cells #[.int .i64 how, .slice an nn cn] 24)).trans (hb1.mono (by simp)))
      clear hb1
      go_wp2_with fail
      go_ret2
      exact ⟨HB1.out, .inl ⟨.inr (by rw [← HC0.out]; exact HC2.out), by rw [HC1.out]; rfl⟩⟩
end Go.Proofs.YtogjcaakfnfapaaDoor
