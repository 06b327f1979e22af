/- Agg, the document's walk. Names by number: Name, Named, both sides. (Several texts in one file, by merge.py.) -/
import Derived.Test.YtogjcaakfnfapaaDoorZA10
import Derived.Test.YtogjcaakfnfapaaDoorZA11
namespace Go.Proofs.YtogjcaakfnfapaaDoor
open Go Go.RowKit Go.Maps
set_option linter.unusedVariables false
set_option linter.unusedSimpArgs false
set_option maxRecDepth 100000
theorem grown_more {W w1 w2 : World} {row row2 : Option Nat} (h : W.grownBy w1 row) (h2 : w1.grownBy w2 row2) (hr : row2 = row ∨ ∀ g, row2 = some g → W.heap.size ≤ g) : W.grownBy w2 row :=
  ⟨h2.os.trans h.os, h2.tape.trans h.tape, h2.output.trans h.output, Nat.le_trans h.size h2.size, fun b hb hne => by
    rw [h2.block b (Nat.lt_of_lt_of_le hb h.size) (fun e => by
      rcases hr with hr | hr
      · rw [hr] at e; exact hne e
      · have := hr b e.symm; omega)]
    exact h.block b hb hne⟩
theorem grown_refl (W : World) (row : Option Nat) : W.grownBy W row := ⟨rfl, rfl, rfl, Nat.le_refl _, fun _ _ _ => rfl⟩
def donel (d : Nat → Bool) (N : Nat) : List Value := (List.range N).map fun j => Value.bool (d j)
theorem donel_len (d : Nat → Bool) (N : Nat) : (donel d N).length = N := by simp [donel]
theorem donel_get {d : Nat → Bool} {N q : Nat} (h : q < N) : (donel d N)[q]? = some (.bool (d q)) := by simp [donel, h]
theorem donel_set (d : Nat → Bool) (N q : Nat) : (donel d N).set q (.bool true) = donel (fun j => if j = q then true else d j) N := by
  refine List.ext_getElem (by simp [donel_len]) fun j h1 h2 => ?_
  rw [List.getElem_set]
  simp only [donel, List.getElem_map, List.getElem_range]
  by_cases e : q = j
  · rw [if_pos e, if_pos e.symm]
  · rw [if_neg e, if_neg (Ne.symm e)]
theorem donel_made (N : Nat) : (madeCells (Value.bool false).cells (N * 1)).toList = donel (fun _ => false) N := by
  refine List.ext_getElem (by simp [donel_len, size_madeCells]) fun j h1 h2 => ?_
  simp only [donel, madeCells, List.getElem_map, List.getElem_range, Array.toList_map, Array.toList_range, Nat.mul_one]
  show (#[Value.bool false][j % 1]!) = _
  rw [Nat.mod_one]; rfl
/-- A list of labels does not lie in a full row of truth values. -/
theorem lab_apart {w : World} {lv : Value} {l : List Lb} {base g N : Nat} {d : Nat → Bool} {t : TypeId} (h : Sl lenc w lv l) (hx : l ≠ []) (ho : w.ownsRow base t 1 (.slice (some ⟨g, 0, none⟩) N N) N (donel d N)) : lv.ownBlock ≠ some g := by
  obtain ⟨a, c, rfl, hm, hn, hc⟩ := h
  obtain ⟨b, off, rfl, hd⟩ := hc hx
  intro e
  simp only [Value.ownBlock] at e
  injection e with e
  subst e
  cases l with
  | nil => exact hx rfl
  | cons x r =>
    have h0 := hd 0 (.string x.1) rfl
    rcases ho.2 with ⟨e, -⟩ | ⟨g', cap, cur, e, -, hg, -, -, hs, ht⟩
    · cases e
    · injection e with e1 e2 e3
      injection e1 with e1
      injection e1 with e1
      subst e1 e3
      have hcur : cur.toList = donel d N := by
        rw [← ht, List.take_of_length_le (by simp [hs])]
      simp only [World.cell?, hg, Option.isSome_none, Bool.false_eq_true, if_false] at h0
      have hm2 : Value.string x.1 ∈ cur.toList := by
        rw [Array.mem_toList_iff]
        exact Array.mem_of_getElem? h0
      rw [hcur] at hm2
      obtain ⟨j, -, e⟩ := List.mem_map.1 hm2
      cases e
theorem memb_take {β : Type} (gl : β → List Lb) (zs : List β) (m : Nat) (h : m < zs.length) (g : List Lb) : membG gl (zs.take (m + 1)) g = membG gl (zs.take m) g ++ if gl zs[m] = g then [zs[m]] else [] := by
  rw [List.take_succ_eq_append_getElem h]
  unfold membG
  rw [List.filter_append]
  by_cases e : gl zs[m] = g <;> simp [e, List.filter_cons]
theorem rtakes_any (op : Int) (w : World) : Calls Tryd.prog 25 #[.int .i64 op] w fun e w' => e = .returned (.bool (takesB op)) ∧ w = w' := by
  obtain ⟨r, hr⟩ : ∃ r, r = takesB op := ⟨_, rfl⟩
  rw [← hr]
  unfold takesB at hr
  cases h6 : (op == 6) with
  | true =>
    rw [h6] at hr
    subst hr
    go_enter Tryd.func25, Tryd.ntmps25
    go_wp2_with fail
    go_ret
    exact ⟨rfl, rfl⟩
  | false =>
    rw [h6] at hr
    have HR := Lib.hid hr
    clear hr
    go_enter Tryd.func25, Tryd.ntmps25
    go_wp2_with fail
    go_ret
    exact ⟨by rw [HR.out]; rfl, rfl⟩
theorem OV.keptBy {w w' : World} {base : Nat} {v : Value} {ps : List Pt} {row : Option Nat} (h : OV w base v ps) (hg : w.grownBy w' row) (hv : v.ownBlock = none ∨ v.ownBlock ≠ row) (hl : ∀ lv l, Sl lenc w lv l → l ≠ [] → lv.ownBlock ≠ row) : OV w' base v ps := by
  obtain ⟨zs, h1, h2, h3⟩ := h
  exact ⟨zs, h1, h2.kept hg hv, fun z hz => ⟨(h3 z hz).1.grown (hl _ _ (h3 z hz).1) hg, (h3 z hz).2⟩⟩
theorem Tryd.infoBool : (Tryd.prog.info? 4).map (fun i => (i.zero, i.size, i.bytes)) = some (some (.bool false), 1, 1) := by kernel_rfl
theorem rgroup_S (v vn : Value) (how : Int) (l : List Lb) (names : List ByteArray) (w : World) (h : Sl lenc w v l) (hn : Sl senc1 w vn names) (hl : l.length ≤ 100000) (hnl : names.length ≤ 100000) :
    Calls Tryd.prog 19 #[v, .agg #[.int .i64 how, vn]] w fun e w' => ∃ a n c, e = .returned (.slice a n c) ∧ Sl lenc w' (.slice a n c) (groupL how names l) ∧ (∀ k, (Value.slice a n c).ownBlock = some k → w.heap.size ≤ k) ∧ Below w.heap.size w w' := by
  refine (rgroup_own v vn how l names w h hn hl hnl).mono ?_
  rintro e w' ⟨v', rfl, ho, hb⟩
  have hs : Sl lenc w' v' (groupL how names l) := Sl.own lenc_len (by decide) ho
  obtain ⟨a, c, rfl, h1⟩ := id hs
  exact ⟨a, _, c, rfl, hs, fun k hk => (ho.lt k hk).1, hb⟩
theorem rsame_S (v1 v2 : Value) (xs ys : List Lb) (w : World) (h1 : Sl lenc w v1 xs) (h2 : Sl lenc w v2 ys) :
    Calls Tryd.prog 18 #[v1, v2] w fun e w' => e = .returned (.bool (decide (xs = ys))) ∧ Below w.heap.size w w' := by
  refine (rsame_any v1 v2 xs ys w h1 h2).mono ?_
  rintro e w' ⟨rfl, n, rfl⟩
  refine ⟨ret_b ?_, below_drewN (Below.refl _ _) n⟩
  rw [Bool.eq_iff_iff]
  simp only [beq_iff_eq, decide_eq_true_eq]
  exact cmpL_eq xs ys
theorem rone_S (op : Int) (v : Value) (vals : List Nat) (w : World) (h : Sl fenc1 w v vals) (hne : vals ≠ []) (hl : vals.length ≤ 1000000) :
    Calls Tryd.prog 54 #[.int .i64 op, v] w fun e w' => ∃ x, e = .returned (.float .f64 x) ∧ canon x = canon (oneF op vals) ∧ Below w.heap.size w w' := by
  refine (rone_any op v vals w h hne hl).mono ?_
  rintro e w' ⟨x, rfl, hx, n, rfl⟩
  exact ⟨x, rfl, hx, below_drewN (Below.refl _ _) n⟩
set_option maxHeartbeats 16000000 in
theorem ragg_go (op how : Int) (k : Nat) (vn v : Value) (names : List ByteArray) (ps : List Pt) (w : World) (h : VS w v ps) (hn : Sl senc1 w vn names) (hnl : names.length ≤ 100000) (hp : ∀ p ∈ ps, PtOk p) (hl : ps.length ≤ 300) :
    Calls Tryd.prog 14 #[.int .i64 op, .agg #[.int .i64 how, vn], .float .f64 k, v] w fun e w' => Below w.heap.size w w' ∧ AggR op how names k ps e w' := by
  obtain ⟨i0, hi, hz0, hz1, hz2⟩ := info_parts Tryd.infoPt
  obtain ⟨d0, di, dz0, dz1, dz2⟩ := info_parts Tryd.infoBool
  obtain ⟨l0, li, lz0, lz1, lz2⟩ := info_parts Tryd.infoFl
  obtain ⟨zs, hzs, hsl, hzl⟩ := h.zpts
  obtain ⟨ob, hob⟩ : ∃ b, b = isB op := ⟨_, rfl⟩
  have HOB := Lib.hid hob
  have HCK := Lib.hid (fun w' (hb : Below w.heap.size w w') => rcheck_any how vn names w' (hn.below hb (Nat.le_refl _)))
  have HSN := Lib.hid hn
  obtain ⟨an, cn, rfl, hlen, -⟩ := hn.strings
  have HPS := Lib.hid hzs
  have HZL := Lib.hid hzl
  have HL := Lib.hid (show zs.length ≤ 300 from by have := congrArg List.length hzs; simp at this; omega)
  have HGOK := Lib.hid (fun (z : ZPt) (hzz : z ∈ zs) => (show z.2.1.length ≤ 1000 ∧ SizesOk z.2.1 ∧ FB z.2.2 from hp z.2 (by rw [← hzs]; exact List.mem_map_of_mem hzz)))
  obtain ⟨av, cv, rfl, hlv, -, hcv⟩ := hsl.split zenc_len
  have HCV := Lib.hid hcv
  have HNL := Lib.hid hnl
  unfold isB at hob
  clear hn h hzs hp hzl hsl hcv hl hnl
  obtain ⟨nn, hnn⟩ : ∃ n, n = names.length := ⟨_, rfl⟩
  rw [← hnn] at HCK HSN hlen ⊢
  have HNN := Lib.hid hnn
  clear hnn
  obtain ⟨N, hN⟩ : ∃ n, n = zs.length := ⟨_, rfl⟩
  rw [← hN] at hlv HL ⊢
  have hNl : N ≤ 300 := HL.out
  have HN := Lib.hid hN
  clear hN
  by_cases h1 : op < 1
  · have HF := Lib.hid (show isB op = false by unfold isB; rw [decide_eq_false (by omega)]; rfl)
    clear hob
    go_enter Tryd.func14, Tryd.ntmps14
    go_wp2_with fail
    go_ret2
    exact ⟨(Below.refl _ _).alloc (Nat.le_refl _) _, .inl ⟨.inl HF.out, rfl⟩⟩
  · have h1' : 1 ≤ op := by omega
    clear h1
    by_cases h2 : 8 < op
    · have HF := Lib.hid (show isB op = false by unfold isB; rw [decide_eq_false (show ¬ op ≤ 8 by omega)]; simp)
      clear hob
      go_enter Tryd.func14, Tryd.ntmps14
      go_wp2_with fail
      go_ret2
      exact ⟨(Below.refl _ _).alloc (Nat.le_refl _) _, .inl ⟨.inl HF.out, rfl⟩⟩
    · have h2' : op ≤ 8 := by omega
      have HF := Lib.hid (show isB op = true by unfold isB; rw [decide_eq_true h1', decide_eq_true h2']; rfl)
      have hd1 : decide (op < 1) = false := decide_eq_false (by omega)
      have hd2 : decide (8 < op) = false := decide_eq_false (by omega)
      clear h2 hob
      obtain ⟨ck, hck⟩ : ∃ c, c = chkL how names := ⟨_, rfl⟩
      rw [← hck] at HCK
      have HC0 := Lib.hid hck
      by_cases hc0 : ck = 0
      · subst hc0
        clear hck
        go_enter Tryd.func14, Tryd.ntmps14
        go_wp2_with fail
        refine (HCK.out _ ((Below.refl _ _).alloc (Nat.le_refl _) _)).mono ?_
        rintro e w1 ⟨rfl, hb1⟩
        have HB1 := Lib.hid (((Below.refl w.heap.size w).alloc (Nat.le_refl _) (.cells #[.int .i64 how, .slice an nn cn] 24)).trans (hb1.mono (by simp)))
        have g0 : w1.cell? ⟨w.heap.size, 0, none⟩ = some (.int .i64 how) := cell_below hb1 (Nat.le_refl _) (by simp)
        have g1 : w1.cell? ⟨w.heap.size, 1, none⟩ = some (.slice an nn cn) := cell_below hb1 (Nat.le_refl _) (by simp)
        obtain ⟨bg, hbg⟩ : ∃ b, b = w.heap.size := ⟨_, rfl⟩
        rw [← hbg] at g0 g1 ⊢
        have hbg1 : bg < w1.heap.size := World.block_lt_of_cell? w1 _ g0
        have G0 := Lib.hid g0
        have G1 := Lib.hid g1
        have HBG := Lib.hid hbg
        have hw1 := HB1.out.size
        clear hb1 g0 g1 hbg HCK
        go_wp2_with (refine wpList_make_full _ rfl _ _ _ rfl w1.heap.size 4 d0 (.bool false) 1 Tryd.underlying76 di dz0 dz1 .i64 .i64 _ _ N rfl rfl rfl rfl (by rw [dz2]; omega) (by unfold maxLen; omega) (Nat.le_refl _) ?_; rintro w2 hd2 hg2)
        -- LOOPS
        have hgl2 : ∀ z, z ∈ zs → (glZ how names z).length ≤ 1000 := fun z hzz => Nat.le_trans (group_len _ _ _) (HGOK.out z hzz).1
        obtain ⟨gd, hgd⟩ : ∃ g, g = w1.heap.size := ⟨_, rfl⟩
        rw [donel_made] at hd2
        rw [← hgd] at hd2 hbg1 ⊢
        have HGD := Lib.hid hgd
        have HD2 := Lib.hid hd2
        have HB2 := Lib.hid (show Below gd w1 w2 from ⟨hg2.os, hg2.tape, hg2.output, hg2.size, fun b hb => hg2.block b (by omega) (by simp)⟩)
        have HGL := Lib.hid hgl2
        clear hgd hd2 hg2 hgl2
        go_loopw [10, 12] (fun out i wr => ∃ (j : Nat) (qs : List Pt) (d : Nat → Bool), j ≤ N ∧ i = .int .i64 j ∧ Hid (wr.ownsRow gd 4 1 (.slice (some ⟨gd, 0, none⟩) N N) N (donel d N)) ∧ Hid (∀ q (hq : q < zs.length), d q = decide (glZ how names zs[q] ∈ firstsG (glZ how names) (zs.take j))) ∧ Hid (OV wr gd out qs) ∧ Hid (qs.map canonP = ((firstsG (glZ how names) (zs.take j)).flatMap (outP op k (glP how names) ps)).map canonP) ∧ Hid (Below gd w1 wr)) (fun _ i _ => N - (intOf i).toNat)
        case atStart => exact ⟨0, [], fun _ => false, Nat.zero_le _, rfl, HD2.out, (fun q hq => by simp [firstsG]), OV.nil _ _, rfl, HB2.out⟩
        case round =>
          obtain ⟨j, qs, d, hj, rfl, HD, HDD, HO, HQ, HB⟩ := hrel
          have hBz : gd ≤ wr.heap.size := by have := HB.out.size; have := HGD.out; omega
          have h00 : (0 : Int) ≤ (j : Int) := by omega
          have hql : qs.length ≤ 90000 := by
            have h1 := congrArg List.length HQ.out
            rw [List.length_map, List.length_map] at h1
            have h2 := outs_len op k (glP how names) (ps := ps) (n := 300) (by have h3 := HL.out; have h5 := HN.out; have h4 := congrArg List.length HPS.out; simp at h4; omega) (by decide) (firstsG (glZ how names) (zs.take j))
            have h3 : (firstsG (glZ how names) (zs.take j)).length ≤ 300 := Nat.le_trans (firsts_len _ _) (by rw [List.length_take]; omega)
            have h4 := Nat.mul_le_mul_right 300 h3
            omega
          by_cases hlt : j < N
          · have hltz : (j : Int) < (N : Int) := by omega
            have hjz : j < zs.length := by have := HN.out; omega
            obtain ⟨b, hb⟩ : ∃ b, b = d j := ⟨_, rfl⟩
            have kd : wr.cell? ⟨gd, j, none⟩ = some (.bool b) := by
              have := HD.out.cells (g := gd) rfl j _ (donel_get hlt)
              rw [hb]
              simpa [Addr.add_lit] using this
            have HBB := Lib.hid (show b = decide (glZ how names zs[j] ∈ firstsG (glZ how names) (zs.take j)) by rw [hb]; exact HDD.out j hjz)
            clear hb
            cases b with
            | true =>
              go_wp2_with fail
              go_roundw
              case rel =>
                have h1 := firsts_take (glZ how names) zs j hjz
                rw [if_pos (of_decide_eq_true HBB.out.symm)] at h1
                exact ⟨j + 1, qs, d, by omega, by go_num, HD.out, by rw [h1]; exact HDD.out, HO.out, by show _ = _; rw [h1]; exact HQ.out, HB.out⟩
              case measure => simp [intOf]; omega
            | false =>
              obtain ⟨bv, offv, rfl, hdc⟩ := HCV.out j hjz
              obtain ⟨z, hzj⟩ : ∃ z, z = zs[j] := ⟨_, rfl⟩
              have hzm : z ∈ zs := by rw [hzj]; exact List.getElem_mem hjz
              rw [← hzj] at hdc
              have hbwr : Below w.heap.size w wr := HB1.out.trans (HB.out.mono (by have := HGD.out; have := HB1.out.size; omega))
              have hslz := (HZL.out z hzm).below hbwr (Nat.le_refl _)
              obtain ⟨lv, zl, zb⟩ := z
              simp only at hslz
              obtain ⟨az, cz, rfl, -, -⟩ := id hslz
              obtain ⟨g, hg⟩ : ∃ g, g = groupL how names zl := ⟨_, rfl⟩
              have HGRP := Lib.hid (fun w' (hb : Below wr.heap.size wr w') => rgroup_S _ (.slice an nn cn) how zl names w' (hslz.below hb (Nat.le_refl _)) ((HSN.out.below hbwr (Nat.le_refl _)).below hb (Nat.le_refl _)) (by have := (HGOK.out _ hzm).1; simp at this; omega) HNL.out)
              rw [← hg] at HGRP
              obtain ⟨nz, hnz⟩ : ∃ n, n = zl.length := ⟨_, rfl⟩
              rw [← hnz] at HGRP hzj
              have p0 : wr.cell? ⟨bv, offv + j * 2, none⟩ = some (.slice az nz cz) := by have := cell_below hbwr (Nat.le_refl _) (hdc 0 _ rfl); simpa [hnz] using this
              have g0 := cell_below HB.out (by have := HGD.out; omega) G0.out
              have g1 := cell_below HB.out (by have := HGD.out; omega) G1.out
              have HGE := Lib.hid (show g = glZ how names zs[j] by rw [hg, ← hzj]; rfl)
              have HZM := Lib.hid hzm
              have HBWR := Lib.hid hbwr
              clear hdc hzj hzm hbwr hslz hg hnz
              go_wp2_with fail
              have hbA : Below wr.heap.size wr wr := Below.refl _ _
              go_region_held3 (fun w' => w'.cell? ⟨bv, offv + j * 2, none⟩ = some (.slice az nz cz) ∧ w'.cell? ⟨bg, 0, none⟩ = some (.int .i64 how) ∧ w'.cell? ⟨bg, 1, none⟩ = some (.slice an nn cn))
                (exact ⟨cell_below (B := wr.heap.size) (by go_grown) (Nat.le_refl _) p0, cell_below (B := wr.heap.size) (by go_grown) (Nat.le_refl _) g0, cell_below (B := wr.heap.size) (by go_grown) (Nat.le_refl _) g1⟩)
                ((go_at_call 19
                  refine (HGRP.out _ (by go_grown)).mono ?_
                  rintro e W ⟨a9, n9, c9, rfl, hs9, ha9, hb9⟩
                  have ha9 : ∀ k, (Value.slice a9 n9 c9).ownBlock = some k → wr.heap.size ≤ k := fun k hk => Nat.le_trans (show Below wr.heap.size wr _ by go_grown).size (ha9 k hk)
                  have hbA : Below wr.heap.size wr W := Below.trans (by go_grown) (hb9.mono (by first | exact Nat.le_refl _ | (simp; done) | (simp; omega)))))
              have HBW := Lib.hid (HB.out.trans (hbA.mono hBz))
              have hdW := own_later HD.out hbA
              have HKA := Lib.hid (fun (hx : g ≠ []) => lab_apart hs9 hx hdW)
              have HDW := Lib.hid hdW
              have HSG := Lib.hid hs9
              have HOW := Lib.hid (HO.out.kept hbA)
              have HKO := Lib.hid (fun (hxx : g ≠ []) => show (Value.slice a9 n9 c9).ownBlock ≠ u10.ownBlock from fun e => by
                obtain ⟨q, e1, h1⟩ := hs9.lt hxx
                have h2 := ha9 q e1
                obtain ⟨_, _, ho, _⟩ := HO.out
                have h3 := (ho.lt q (by rw [← e]; exact e1)).2
                omega)
              clear ha9
              have hWz : gd ≤ W.heap.size := by have := HBW.out.size; have := HGD.out; omega
              have hgdW : gd < W.heap.size := by
                rcases hdW.2 with ⟨e, -⟩ | ⟨q, _, _, e, -, hq, -⟩
                · cases e
                · injection e with e1
                  injection e1 with e1
                  injection e1 with e1
                  subst e1
                  exact (Array.getElem?_eq_some_iff.1 hq).1
              clear hbA hdW hs9 hb9 HD HO HB hBz p0 g0 g1 kd HGRP HBWR
              go_wp2_with fail
              -- INNER
              have hnone : membG (glZ how names) (zs.take j) g = [] := by
                refine List.filter_eq_nil_iff.2 fun z hzz hc => ?_
                have h1 := of_decide_eq_false HBB.out.symm
                rw [← HGE.out] at h1
                exact h1 ((mem_firsts _ _ _).2 ⟨z, hzz, of_decide_eq_true hc⟩)
              have HNONE := Lib.hid hnone
              clear hnone
              go_loopw [14, 15, 16] (fun vin vv q wq => ∃ (m : Nat) (d2 : Nat → Bool), j ≤ m ∧ m ≤ N ∧ q = .int .i64 m ∧ Hid (wq.ownsRow gd 4 1 (.slice (some ⟨gd, 0, none⟩) N N) N (donel d2 N)) ∧ Hid (∀ q (hq : q < zs.length), d2 q = (decide (glZ how names zs[q] ∈ firstsG (glZ how names) (zs.take j)) || (decide (q < m) && decide (glZ how names zs[q] = g)))) ∧
                Hid (wq.ownsRow W.heap.size 42 2 vin (membG (glZ how names) (zs.take m) g).length ((membG (glZ how names) (zs.take m) g).flatMap zenc)) ∧ Hid (wq.ownsRow W.heap.size 25 1 vv (membG (glZ how names) (zs.take m) g).length ((membG (glZ how names) (zs.take m) g).map fun z => Value.float .f64 z.2.2)) ∧ Hid (W.grownBy wq (some gd))) (fun _ _ q _ => N - (intOf q).toNat)
              case atStart =>
                refine ⟨j, d, Nat.le_refl _, by omega, rfl, HDW.out, fun q hq => ?_, ?_, ?_, grown_refl _ _⟩
                · rw [HDD.out q hq]
                  by_cases hqj : q < j
                  · have : decide (glZ how names zs[q] = g) = false := decide_eq_false fun e => by
                      have h1 := HNONE.out
                      have h2 : zs[q] ∈ membG (glZ how names) (zs.take j) g := List.mem_filter.2 ⟨List.mem_take_iff_getElem.2 ⟨q, by omega, rfl⟩, decide_eq_true e⟩
                      rw [h1] at h2; cases h2
                    rw [this, Bool.and_false, Bool.or_false]
                  · rw [decide_eq_false hqj, Bool.false_and, Bool.or_false]
                · show World.ownsRow _ _ _ _ _ _ _
                  rw [HNONE.out]; exact World.ownsRow_nil _ _ _ _
                · show World.ownsRow _ _ _ _ _ _ _
                  rw [HNONE.out]; exact World.ownsRow_nil _ _ _ _
              case round =>
                obtain ⟨m, d2, hjm, hm, rfl, HD, HDE, HIN, HVV, HGR⟩ := hrel
                have hgz := HGR.out.size
                have h02 : (0 : Int) ≤ (m : Int) := by omega
                have hbq : Below w.heap.size w wr := HB1.out.trans ((HBW.out.mono (by have := HGD.out; omega)).grown HGR.out (by have := HGD.out; omega) (fun q hq => by injection hq with hq; have := HGD.out; omega))
                have HBQ := Lib.hid hbq
                clear hbq
                by_cases hlt2 : m < N
                · have hltz2 : (m : Int) < (N : Int) := by omega
                  have hmz : m < zs.length := by have := HN.out; omega
                  obtain ⟨bv2, offv2, eb, hdc⟩ := HCV.out m hmz
                  injection eb with eb
                  injection eb with eb1 eb2
                  subst eb1 eb2
                  obtain ⟨z, hzj⟩ : ∃ z, z = zs[m] := ⟨_, rfl⟩
                  have hzm : z ∈ zs := by rw [hzj]; exact List.getElem_mem hmz
                  rw [← hzj] at hdc
                  have hslz := (HZL.out z hzm).below HBQ.out (Nat.le_refl _)
                  obtain ⟨lv, zl2, zb2⟩ := z
                  simp only at hslz
                  obtain ⟨az2, cz2, rfl, -, -⟩ := id hslz
                  obtain ⟨gm, hgm⟩ : ∃ g, g = groupL how names zl2 := ⟨_, rfl⟩
                  have HGRP := Lib.hid (fun w' (hb : Below wr.heap.size wr w') => rgroup_S _ (.slice an nn cn) how zl2 names w' (hslz.below hb (Nat.le_refl _)) ((HSN.out.below HBQ.out (Nat.le_refl _)).below hb (Nat.le_refl _)) (by have := (HGOK.out _ hzm).1; simp at this; omega) HNL.out)
                  rw [← hgm] at HGRP
                  obtain ⟨nz2, hnz⟩ : ∃ n, n = zl2.length := ⟨_, rfl⟩
                  rw [← hnz] at HGRP hzj
                  have p0 : wr.cell? ⟨bv, offv + m * 2, none⟩ = some (.slice az2 nz2 cz2) := by have := cell_below HBQ.out (Nat.le_refl _) (hdc 0 _ rfl); simpa [hnz] using this
                  have p1 : wr.cell? ⟨bv, offv + m * 2 + 1, none⟩ = some (.float .f64 zb2) := cell_below HBQ.out (Nat.le_refl _) (hdc 1 _ rfl)
                  have hbvw : bv < w.heap.size := World.block_lt_of_cell? w _ (hdc 0 _ rfl)
                  have g0 := HGR.out.cell (cell_below HBW.out (by have := HGD.out; omega) G0.out) (by intro e; injection e with e; simp at e; omega)
                  have g1 := HGR.out.cell (cell_below HBW.out (by have := HGD.out; omega) G1.out) (by intro e; injection e with e; simp at e; omega)
                  have HSK := Lib.hid (HSG.out.grown (g := some gd) (fun hx => HKA.out hx) HGR.out)
                  have HGE2 := Lib.hid (show glZ how names zs[m] = gm by rw [hgm, ← hzj]; rfl)
                  have HZJ := Lib.hid hzj
                  clear hdc hzj hzm hslz hgm hnz
                  obtain ⟨be, hbe⟩ : ∃ b, b = decide (gm = g) := ⟨_, rfl⟩
                  have HSM := Lib.hid (fun a n c w' (h1 : Sl lenc w' (.slice a n c) gm) (h2 : Sl lenc w' (.slice a9 n9 c9) g) => rsame_S (.slice a n c) (.slice a9 n9 c9) gm g w' h1 h2)
                  rw [← hbe] at HSM
                  have HBE := Lib.hid hbe
                  clear hbe
                  go_wp2_with fail
                  have hbA : Below wr.heap.size wr wr := Below.refl _ _
                  have hsA := hbA.size
                  go_region_held3 (fun w' => w'.cell? ⟨bv, offv + m * 2, none⟩ = some (.slice az2 nz2 cz2) ∧ w'.cell? ⟨bg, 0, none⟩ = some (.int .i64 how) ∧ w'.cell? ⟨bg, 1, none⟩ = some (.slice an nn cn))
                    (exact ⟨cell_below (B := wr.heap.size) (by go_grown) (Nat.le_refl _) p0, cell_below (B := wr.heap.size) (by go_grown) (Nat.le_refl _) g0, cell_below (B := wr.heap.size) (by go_grown) (Nat.le_refl _) g1⟩)
                    (first
                      | (go_at_call 19
                         refine (HGRP.out _ (by go_grown)).mono ?_
                         rintro e w8 ⟨a8, n8, c8, rfl, hs8, -, hb8⟩
                         have hbA : Below wr.heap.size wr w8 := Below.trans (by go_grown) (hb8.mono (by first | exact Nat.le_refl _ | (simp; done) | (simp; omega)))
                         have hsA := hbA.size)
                      | (go_at_call 18
                         refine (HSM.out a8 n8 c8 w8 hs8 (HSK.out.below hbA (Nat.le_refl _))).mono ?_
                         rintro e w9 ⟨rfl, hb9⟩
                         have hbA : Below wr.heap.size wr w9 := hbA.trans (hb9.mono hsA)))
                  -- BODY
                  have hd9 := own_later HD.out hbA
                  have hi9 := own_later HIN.out hbA
                  have hv9 := own_later HVV.out hbA
                  have hg9 := grown_more HGR.out (below_grownBy' hbA) (.inr (fun q hq => by cases hq))
                  have q0 := cell_below hbA (Nat.le_refl _) p0
                  have q1 := cell_below hbA (Nat.le_refl _) p1
                  have hmt : membG (glZ how names) (zs.take (m + 1)) g = membG (glZ how names) (zs.take m) g ++ if be then [(.slice az2 nz2 cz2, zl2, zb2)] else [] := by
                    have h1 := memb_take (glZ how names) zs m hmz g
                    rw [HGE2.out, ← HZJ.out] at h1
                    rw [h1, HBE.out]
                    by_cases e : gm = g <;> simp [e]
                  have HMT := Lib.hid hmt
                  have HD9 := Lib.hid hd9
                  have HI9 := Lib.hid hi9
                  have HV9 := Lib.hid hv9
                  have HG9 := Lib.hid hg9
                  have hz9 := hbA.size
                  clear hd9 hi9 hv9 hg9 hmt hbA hb9 hs8 hb8 hsA p0 p1 g0 g1 HGRP HSM HSK HIN HVV
                  cases be with
                  | false =>
                    have HMT2 := Lib.hid (show membG (glZ how names) (zs.take (m + 1)) g = membG (glZ how names) (zs.take m) g by rw [HMT.out]; simp)
                    go_wp2_with fail
                    go_roundw
                    case rel =>
                      refine ⟨m + 1, d2, by omega, by omega, by go_num, HD9.out, fun q hq => ?_, ?_, ?_, HG9.out⟩
                      · rw [HDE.out q hq]
                        congr 1
                        by_cases e : q = m
                        · subst e
                          rw [HGE2.out, ← HBE.out]; simp
                        · rw [show decide (q < m + 1) = decide (q < m) from by rw [decide_eq_decide]; omega]
                      · show World.ownsRow _ _ _ _ _ _ _
                        rw [HMT2.out]; exact HI9.out
                      · show World.ownsRow _ _ _ _ _ _ _
                        rw [HMT2.out]; exact HV9.out
                    case measure => simp [intOf]; omega
                  | true =>
                    obtain ⟨F, hF⟩ : ∃ F, F = membG (glZ how names) (zs.take m) g := ⟨_, rfl⟩
                    have hi9 := HI9.out
                    have hv9 := HV9.out
                    rw [← hF] at hi9 hv9
                    have HFF := Lib.hid hF
                    have hFl : F.length ≤ 300 := by rw [hF]; exact Nat.le_trans (List.length_filter_le _ _) (by rw [List.length_take]; omega)
                    have kd : w9.cell? ⟨gd, m, none⟩ = some (.bool (d2 m)) := by
                      have := HD9.out.cells (g := gd) rfl m _ (donel_get hlt2)
                      simpa [Addr.add_lit] using this
                    have kf : w9.frozen? ⟨gd, m, none⟩ = false := HD9.out.frozenAt _
                    obtain ⟨hst, hsg⟩ := HD9.out.stored m (.bool true)
                    rw [donel_set] at hst
                    have hbvd : bv ≠ gd := by have := HGD.out; omega
                    have i10 := hi9.kept hsg (by
                      cases hq : u14.ownBlock with
                      | none => exact .inl rfl
                      | some q => exact .inr (fun e => by injection e with e; have := (hi9.lt q hq).1; omega))
                    have v10 := hv9.kept hsg (by
                      cases hq : u15.ownBlock with
                      | none => exact .inl rfl
                      | some q => exact .inr (fun e => by injection e with e; have := (hv9.lt q hq).1; omega))
                    have q0' := hsg.cell q0 (by intro e; injection e with e; simp at e; omega)
                    have q1' := hsg.cell q1 (by intro e; injection e with e; simp at e; omega)
                    have hg10 := grown_more HG9.out hsg (.inl rfl)
                    have HI10 := Lib.hid i10
                    have HV10 := Lib.hid v10
                    have HD10 := Lib.hid hst
                    have HG10 := Lib.hid hg10
                    have hz10 : W.heap.size ≤ (w9.setCell ⟨gd, m, none⟩ (.bool true)).heap.size := hg10.size
                    clear hi9 hv9 hst hsg i10 v10 hg10 hF
                    -- APP
                    have hblk14 : ∀ q, u14.ownBlock = some q → W.heap.size ≤ q := fun q hq => (HI10.out.lt q hq).1
                    have hblk15 : ∀ q, u15.ownBlock = some q → W.heap.size ≤ q := fun q hq => (HV10.out.lt q hq).1
                    have HB14 := Lib.hid hblk14
                    have HB15 := Lib.hid hblk15
                    have hbvW : bv < W.heap.size := by have := HGD.out; omega
                    have hw9z : (w9.setCell ⟨gd, m, none⟩ (.bool true)).heap.size = w9.heap.size := by simp
                    have HW9Z := Lib.hid hw9z
                    have hz9' : W.heap.size ≤ w9.heap.size := by omega
                    have HLIT := Lib.hid (show ((w9.setCell ⟨gd, m, none⟩ (.bool true)).alloc (.cells #[.slice az2 nz2 cz2, .float .f64 zb2] 42)).heap[w9.heap.size]? = some (.cells #[.slice az2 nz2 cz2, .float .f64 zb2] 42 (0, 0)) by
                      have := heap_new (w9.setCell ⟨gd, m, none⟩ (.bool true)) (.cells #[.slice az2 nz2 cz2, .float .f64 zb2] 42)
                      rw [hw9z] at this
                      exact this)
                    clear hblk14 hblk15 hw9z hz10
                    go_wp2_with (first
                      | (at_builtin
                         refine wpList_append_own_at _ rfl (.tmp 67) (.tmp 72) _ rfl W.heap.size 42 i0 _ 2 32 Tryd.underlying26 hi hz0 hz1 hz2 rfl (by decide) u14 F.length (F.flatMap zenc) rfl (World.ownsRow.alloc HI10.out _) ⟨w9.heap.size, 0, none⟩ 1 1 [.slice az2 nz2 cz2, .float .f64 zb2] rfl rfl (World.news_of_block HLIT.out) (by intro u hu; simp at hu; rcases hu with rfl | rfl <;> rfl) (by unfold maxLen; omega) (by omega) (by simp; omega) ?_
                         intro v' w11 hin' hgrow hnil hat
                         have hq1 := hgrow.cell (cell_below (B := (w9.setCell ⟨gd, m, none⟩ (.bool true)).heap.size) ((Below.refl _ _).alloc (Nat.le_refl _) _) (Nat.le_refl _) q1') (by intro e; have := HB14.out _ e.symm; simp at this; omega)
                         have hv11 := (World.ownsRow.alloc HV10.out (.cells #[.slice az2 nz2 cz2, .float .f64 zb2] 42)).kept hgrow (rows_apart HV10.out HI10.out (by decide))
                         have hd11 := (World.ownsRow.alloc HD10.out (.cells #[.slice az2 nz2 cz2, .float .f64 zb2] 42)).kept hgrow (rows_apart HD10.out HI10.out (by decide))
                         have hg11 := grown_more (grown_more HG10.out (below_grownBy' ((Below.refl _ _).alloc (Nat.le_refl _) (.cells #[.slice az2 nz2 cz2, .float .f64 zb2] 42))) (.inr (fun q hq => by cases hq))) hgrow (.inr HB14.out)
                         have HIN11 := Lib.hid hin'
                         have HV11 := Lib.hid hv11
                         have HD11 := Lib.hid hd11
                         have HG11 := Lib.hid hg11
                         have hz11 := hg11.size
                         clear hin' hgrow hnil hat hv11 hd11 hg11)
                      | (at_builtin
                         refine wpList_append_own_at _ rfl (.tmp 74) (.tmp 80) _ rfl W.heap.size 25 l0 _ 1 8 Tryd.underlying74 li lz0 lz1 lz2 rfl (by decide) u15 F.length _ rfl (World.ownsRow.alloc HV11.out _) ⟨w11.heap.size, 0, none⟩ 1 1 [.float .f64 zb2] rfl rfl (World.news_of_block (heap_new w11 _)) (by intro u hu; simp at hu; subst hu; rfl) (by unfold maxLen; omega) (by omega) (by simp; omega) ?_
                         intro v'' w12 hvv' hgrow2 hnil2 hat2
                         have hi12 := (World.ownsRow.alloc HIN11.out (.cells #[.float .f64 zb2] 25)).kept hgrow2 (rows_apart HIN11.out HV11.out (by decide))
                         have hd12 := (World.ownsRow.alloc HD11.out (.cells #[.float .f64 zb2] 25)).kept hgrow2 (rows_apart HD11.out HV11.out (by decide))
                         have hg12 := grown_more (grown_more HG11.out (below_grownBy' ((Below.refl _ _).alloc (Nat.le_refl _) (.cells #[.float .f64 zb2] 25))) (.inr (fun q hq => by cases hq))) hgrow2 (.inr HB15.out)
                         have HI12 := Lib.hid hi12
                         have HV12 := Lib.hid hvv'
                         have HD12 := Lib.hid hd12
                         have HG12 := Lib.hid hg12
                         clear hvv' hgrow2 hnil2 hat2 hi12 hd12 hg12))
                    go_roundw
                    case rel =>
                      have hm1 : membG (glZ how names) (zs.take (m + 1)) g = F ++ [(.slice az2 nz2 cz2, zl2, zb2)] := by rw [HMT.out, HFF.out]; rfl
                      refine ⟨m + 1, _, by omega, by omega, by go_num, HD12.out, fun q hq => ?_, ?_, ?_, HG12.out⟩
                      · by_cases e : q = m
                        · subst e
                          rw [if_pos rfl, HGE2.out, ← HBE.out]
                          simp
                        · rw [if_neg e, HDE.out q hq, show decide (q < m + 1) = decide (q < m) from by rw [decide_eq_decide]; omega]
                      · show World.ownsRow _ _ _ _ _ _ _
                        rw [hm1, List.length_append, List.flatMap_append]; exact HI12.out
                      · show World.ownsRow _ _ _ _ _ _ _
                        rw [hm1, List.length_append, List.map_append]; exact HV12.out
                    case measure => simp [intOf]; omega
                · -- EXIT
                  have hltz2 : ¬ (m : Int) < (N : Int) := by omega
                  obtain rfl : m = N := by omega
                  obtain ⟨F, hF⟩ : ∃ F, F = membG (glZ how names) zs g := ⟨_, rfl⟩
                  have hzt : zs.take m = zs := List.take_of_length_le (by have := HN.out; omega)
                  have hin := HIN.out
                  have hvv := HVV.out
                  rw [hzt, ← hF] at hin hvv
                  have hFj : zs[j] ∈ F := by rw [hF]; exact List.mem_filter.2 ⟨List.getElem_mem hjz, decide_eq_true HGE.out.symm⟩
                  have hFn : F ≠ [] := fun e => by rw [e] at hFj; cases hFj
                  have hFm : ∀ z ∈ F, z ∈ zs := fun z hzz => by rw [hF] at hzz; exact (memb_mem _ hzz).1
                  have hFl : F.length ≤ 300 := by rw [hF]; exact Nat.le_trans (List.length_filter_le _ _) (by have := HN.out; omega)
                  have HSF := Lib.hid (show Sl zenc wr u14 F from Sl.own zenc_len (by decide) hin)
                  have HVF := Lib.hid (show Sl fenc1 wr u15 (F.map fun z => z.2.2) from Sl.own (n := F.length) (base := W.heap.size) (e := 25) fenc1_len (by decide) (by rw [fl_flat]; exact hvv))
                  have hne10 : u10.ownBlock = none ∨ u10.ownBlock ≠ some gd := by
                    obtain ⟨_, _, ho, _⟩ := HOW.out
                    exact rows_apart ho HDW.out (by decide)
                  have HOV := Lib.hid (HOW.out.keptBy HGR.out hne10 (fun lv l hs hx => lab_apart hs hx HDW.out))
                  have HBX := Lib.hid (show Below gd w1 wr from HBW.out.grown HGR.out hWz (fun q hq => by injection hq with hq; omega))
                  have HFN := Lib.hid hFn
                  have HFM := Lib.hid hFm
                  have HFF := Lib.hid hF
                  have HFI := Lib.hid (show firstsG (glZ how names) (zs.take (j + 1)) = firstsG (glZ how names) (zs.take j) ++ [g] by
                    have h1 := firsts_take (glZ how names) zs j hjz
                    rw [if_neg (of_decide_eq_false HBB.out.symm), ← HGE.out] at h1
                    exact h1)
                  have HDF := Lib.hid (show ∀ q (hq : q < zs.length), d2 q = decide (glZ how names zs[q] ∈ firstsG (glZ how names) (zs.take (j + 1))) from fun q hq => by
                    rw [HDE.out q hq, HFI.out, decide_eq_true (show q < m by have := HN.out; omega), Bool.true_and, Bool.eq_iff_iff]
                    simp [List.mem_append])
                  have hwrz : gd ≤ wr.heap.size := by omega
                  obtain ⟨tb, htb⟩ : ∃ b, b = takesB op := ⟨_, rfl⟩
                  have HTK := Lib.hid (fun w => rtakes_any op w)
                  rw [← htb] at HTK
                  have HTBB := Lib.hid htb
                  clear hF hzt hin hvv hFj hFn hFm hne10 htb HIN HVV
                  cases tb with
                  | true =>
                    have hok : ∀ w', Below w.heap.size w w' → ∀ z ∈ F, Sl lenc w' z.1 z.2.1 ∧ FB z.2.2 := fun w' hb z hzz => ⟨(HZL.out z (HFM.out z hzz)).below hb (Nat.le_refl _), (HGOK.out z (HFM.out z hzz)).2.2⟩
                    have HOKK := Lib.hid hok
                    have HCH := Lib.hid (rchosen_go op k u14 F wr HSF.out HFN.out (hok wr HBQ.out) (by omega))
                    clear hok
                    go_wp2_with fail
                    refine (HTK.out _).mono ?_
                    rintro e w4 ⟨rfl, rfl⟩
                    go_wp2_with fail
                    refine HCH.out.mono ?_
                    rintro e w5 ⟨g5, n5, c5, rfl, hs5, hb5⟩
                    obtain ⟨ys, hys⟩ : ∃ ys, ys = (stabF (aheadZ op) F).take (cntN k F.length) := ⟨_, rfl⟩
                    rw [← hys] at hs5
                    obtain ⟨rfl, -, hcell⟩ := Sl.src zenc_pos hs5
                    obtain ⟨zs0, hz0s, hown0, hzok0⟩ := HOV.out.kept hb5
                    have hyF : ∀ z ∈ ys, z ∈ F := fun z hzz => by
                      rw [hys] at hzz
                      exact (stab_perm _ _).subset (List.mem_of_mem_take hzz)
                    have hyl : ys.length ≤ 300 := by
                      rw [hys, List.length_take]
                      have h1 := (stab_perm (aheadZ op) F).length_eq
                      omega
                    have hbw5 : Below w.heap.size w w5 := HBQ.out.trans (hb5.mono HBQ.out.size)
                    have hyok : ∀ z ∈ ys, ZOk w5 u10.ownBlock z := fun z hzz => (ZOk.fresh (w := w) (HZL.out z (HFM.out z (hyF z hzz))) (fun q hq => by have := (hown0.lt q hq).1; have := HGD.out; omega)).below hbw5 (Nat.le_refl _)
                    have hone := zenc_one (zs := ys) (w := w5) (fun z hzz => (HOKK.out w5 hbw5 z (hyF z hzz)).1)
                    have hb5z : gd ≤ w5.heap.size := by have := hb5.size; omega
                    have HYS := Lib.hid hys
                    have HCELL := Lib.hid (hcell _ rfl)
                    have HZ0 := Lib.hid hz0s
                    have HW0 := Lib.hid hown0
                    have HK0 := Lib.hid hzok0
                    have HYK := Lib.hid hyok
                    have HB5 := Lib.hid (HBX.out.trans (hb5.mono hwrz))
                    have HD5 := Lib.hid (own_later HD.out hb5)
                    have HONE := Lib.hid hone
                    obtain ⟨ny, hny⟩ : ∃ n, n = ys.length := ⟨_, rfl⟩
                    rw [← hny] at hyl ⊢
                    have HNY := Lib.hid hny
                    clear hys hs5 hcell hz0s hown0 hzok0 hyF hyok hbw5 hone hny hb5 HCH
                    go_wp2_with (first
                      | (at_builtin
                         refine wpList_append_own_at _ rfl (.tmp 84) (.tmp 88) _ rfl gd 42 i0 _ 2 32 Tryd.underlying26 hi hz0 hz1 hz2 rfl (by decide) u10 qs.length (zs0.flatMap zenc) rfl HW0.out ⟨g5, 0, none⟩ ny c5 (ys.flatMap zenc) rfl (by rw [HNY.out]; exact flat_length zenc_len ys) HCELL.out HONE.out (by unfold maxLen; omega) (by omega) hb5z ?_
                         intro v' w7 hown' hgrow hnil hat
                         have hov : OV w7 gd v' (qs ++ ys.map (·.2)) := OV.appendAll HZ0.out HK0.out HYK.out (by rw [← HNY.out]; exact hown') hgrow hat
                         have hb7 : Below gd w1 w7 := HB5.out.grown hgrow hb5z (fun q hq => (HW0.out.lt q hq).1)
                         have hd7 := HD5.out.kept hgrow (rows_apart HD5.out HW0.out (by decide))
                         have HOV7 := Lib.hid hov
                         have HB7 := Lib.hid hb7
                         have HD7 := Lib.hid hd7
                         clear hown' hgrow hnil hat hov hb7 hd7))
                    go_roundw
                    case rel => exact ⟨j + 1, _, d2, by omega, by go_num, HD7.out, HDF.out, HOV7.out, by
                      show _ = _
                      rw [HFI.out, List.flatMap_append, List.map_append, List.map_append, ← HQ.out]
                      congr 1
                      rw [List.flatMap_cons, List.flatMap_nil, List.append_nil, outP, if_pos HTBB.out.symm, HYS.out, HFF.out]
                      rw [chosen_read op how k names HPS.out g], HB7.out⟩
                    case measure => simp [intOf]; omega
                  | false =>
                    have HONE := Lib.hid (rone_S op u15 _ wr HVF.out (by simpa using HFN.out) (by rw [List.length_map]; omega))
                    go_wp2_with fail
                    refine (HTK.out _).mono ?_
                    rintro e w4 ⟨rfl, rfl⟩
                    go_wp2_with fail
                    refine HONE.out.mono ?_
                    rintro e w5 ⟨x, rfl, hx, hb5⟩
                    obtain ⟨zs0, hz0s, hown0, hzok0⟩ := HOV.out.kept hb5
                    have hsk := (HSG.out.grown (g := some gd) (fun hx => HKA.out hx) HGR.out).below hb5 (Nat.le_refl _)
                    have hb5z : gd ≤ w5.heap.size := by have := hb5.size; omega
                    have HZ0 := Lib.hid hz0s
                    have HW0 := Lib.hid hown0
                    have HK0 := Lib.hid hzok0
                    have HB5 := Lib.hid (HBX.out.trans (hb5.mono hwrz))
                    have HD5 := Lib.hid (own_later HD.out hb5)
                    have HSK := Lib.hid hsk
                    have HX := Lib.hid hx
                    clear hz0s hown0 hzok0 hsk hx hb5
                    go_wp2_with (first
                      | (at_builtin
                         refine wpList_append_own_at _ rfl (.tmp 90) (.tmp 96) _ rfl gd 42 i0 _ 2 32 Tryd.underlying26 hi hz0 hz1 hz2 rfl (by decide) u10 qs.length (zs0.flatMap zenc) rfl (World.ownsRow.alloc HW0.out _) ⟨w5.heap.size, 0, none⟩ 1 1 [.slice a9 n9 c9, .float .f64 x] rfl rfl (World.news_of_block (heap_new w5 _)) (by intro u hu; simp at hu; rcases hu with rfl | rfl <;> rfl) (by unfold maxLen; omega) (by omega) (by simp; omega) ?_
                         intro v' w7 hown' hgrow hnil hat
                         have hbl : Below w5.heap.size w5 (w5.alloc (.cells #[.slice a9 n9 c9, .float .f64 x] 42)) := (Below.refl _ _).alloc (Nat.le_refl _) _
                         have hov : OV w7 gd v' (qs ++ [(g, x)]) := OV.appended (z := (.slice a9 n9 c9, g, x)) HZ0.out (fun z hz => (HK0.out z hz).below hbl (Nat.le_refl _)) ⟨HSK.out.below hbl (Nat.le_refl _), fun hxx => HKO.out hxx⟩ hown' hgrow hat
                         have hb7 : Below gd w1 w7 := (HB5.out.alloc hb5z _).grown hgrow (by simp; omega) (fun q hq => (HW0.out.lt q hq).1)
                         have hd7 := (World.ownsRow.alloc HD5.out (.cells #[.slice a9 n9 c9, .float .f64 x] 42)).kept hgrow (rows_apart HD5.out HW0.out (by decide))
                         have HOV7 := Lib.hid hov
                         have HB7 := Lib.hid hb7
                         have HD7 := Lib.hid hd7
                         clear hown' hgrow hnil hat hov hb7 hd7 hbl))
                    go_roundw
                    case rel => exact ⟨j + 1, _, d2, by omega, by go_num, HD7.out, HDF.out, HOV7.out, by
                      show _ = _
                      rw [HFI.out, List.flatMap_append, List.map_append, List.map_append, ← HQ.out]
                      congr 1
                      have h1 : (membG (glZ how names) zs g).map (·.2) = membG (glP how names) ps g := by rw [← HPS.out]; exact memb_map (fun z : ZPt => z.2) (glP how names) zs g
                      have h2 : (F.map fun z => z.2.2) = (membG (glP how names) ps g).map (·.2) := by rw [← h1, ← HFF.out, List.map_map]; rfl
                      have h3 := HX.out
                      rw [h2] at h3
                      rw [List.flatMap_cons, List.flatMap_nil, List.append_nil, outP, if_neg (by rw [← HTBB.out]; decide)]
                      show [(g, canon x)] = [(g, canon (oneF op _))]
                      rw [h3], HB7.out⟩
                    case measure => simp [intOf]; omega
          · have hltz : ¬ (j : Int) < (N : Int) := by omega
            obtain rfl : j = N := by omega
            have hq := HQ.out
            rw [List.take_of_length_le (by have := HN.out; omega)] at hq
            have HNM := Lib.hid (rnormal_any _ qs wr HO.out.vs (by omega))
            have HQQ := Lib.hid hq
            clear hq
            go_wp2_with fail
            refine HNM.out.mono ?_
            rintro e w5 ⟨hb5, hnr⟩
            obtain ⟨v5, n5, rfl⟩ := nr_tuple hnr
            have HNR := Lib.hid hnr
            have HB5 := Lib.hid (HB1.out.trans ((HB.out.mono (by have := HGD.out; omega)).trans (hb5.mono (by have := HGD.out; have := HB1.out.size; omega))))
            clear hnr hb5 HNM
            go_wp2_with fail
            go_ret2
            refine ⟨HB5.out, .inr ⟨HF.out, HC0.out.symm, nr_congr ?_ HNR.out⟩⟩
            rw [HQQ.out, aggP, ← HPS.out, ← firsts_map]
            rfl
      · have hc1 : (ck == 0) = false := by simpa using hc0
        have hc3 : (ck != 0) = true := by simpa using hc0
        have HC2 := Lib.hid hc0
        clear hck hc0
        go_enter Tryd.func14, Tryd.ntmps14
        go_wp2_with fail
        refine (HCK.out _ ((Below.refl _ _).alloc (Nat.le_refl _) _)).mono ?_
        rintro e w1 ⟨rfl, hb1⟩
        have HB1 := Lib.hid (((Below.refl w.heap.size w).alloc (Nat.le_refl _) (.cells #[.int .i64 how, .slice an nn cn] 24)).trans (hb1.mono (by simp)))
        clear hb1
        go_wp2_with fail
        go_ret2
        exact ⟨HB1.out, .inl ⟨.inr (by rw [← HC0.out]; exact HC2.out), rfl⟩⟩
end Go.Proofs.YtogjcaakfnfapaaDoor
namespace Go.Proofs.YtogjcaakfnfapaaDoor
open Go Go.RowKit
set_option linter.unusedVariables false
set_option linter.unusedSimpArgs false
def agNamesL : List ByteArray := [⟨#[]⟩, ⟨#[115, 117, 109]⟩, ⟨#[99, 111, 117, 110, 116]⟩, ⟨#[109, 105, 110]⟩, ⟨#[109, 97, 120]⟩, ⟨#[97, 118, 103]⟩, ⟨#[116, 111, 112, 107]⟩, ⟨#[98, 111, 116, 116, 111, 109, 107]⟩, ⟨#[103, 114, 111, 117, 112]⟩]
set_option maxRecDepth 100000 in
theorem agNames_any (w : World) : Calls Tryd.prog 64 #[] w fun e w' => ∃ v, e = .returned v ∧ Sl senc1 w' v agNamesL ∧ Below w.heap.size w w' := by
  go_enter Tryd.func64, Tryd.ntmps64
  go_wp2
  go_ret
  exact ⟨_, rfl, Sl.lit (heap_new w _) rfl rfl (by decide), (Below.refl _ _).alloc (Nat.le_refl _) _⟩
set_option maxRecDepth 100000 in
theorem agrnames_any (w : World) : Calls Tryd.prog 65 #[] w fun e w' => ∃ v, e = .returned v ∧ Sl senc1 w' v agNamesL ∧ Below w.heap.size w w' := by
  go_enter Tryd.func65, Tryd.ntmps65
  go_wp2
  go_ret
  exact ⟨_, rfl, Sl.lit (heap_new w _) rfl rfl (by decide), (Below.refl _ _).alloc (Nat.le_refl _) _⟩

def agNameOf (fn : Int) : ByteArray := if 1 ≤ fn ∧ fn ≤ 8 then agNamesL.getD fn.toNat ⟨#[]⟩ else ⟨#[]⟩

set_option maxRecDepth 100000 in
theorem agName_any (fn : Int) (w : World) : Calls Tryd.prog 22 #[.int .i64 fn] w fun e w' => e = .returned (.string (agNameOf fn)) ∧ Below w.heap.size w w' := by
  have HIS := Lib.hid (fun w => aggIs_any fn w)
  obtain ⟨ib, hib⟩ : ∃ b, b = isB fn := ⟨_, rfl⟩
  rw [← hib] at HIS
  unfold isB at hib
  by_cases h12 : 1 ≤ fn ∧ fn ≤ 8
  · obtain ⟨h1, h2⟩ := h12
    rw [decide_eq_true h1, decide_eq_true h2] at hib
    subst hib
    obtain ⟨n, rfl⟩ : ∃ n : Nat, fn = n := ⟨fn.toNat, by omega⟩
    have hnm : agNameOf n = agNamesL.getD n ⟨#[]⟩ := by unfold agNameOf; rw [if_pos ⟨h1, h2⟩]; rfl
    have HN := Lib.hid hnm
    clear hnm
    go_enter Tryd.func22, Tryd.ntmps22
    go_wp2_with fail
    refine (HIS.out _).mono ?_
    rintro e w0 ⟨rfl, rfl⟩
    go_wp2_with fail
    refine (agNames_any _).mono ?_
    rintro e w1 ⟨v, rfl, hs, hb⟩
    obtain ⟨a, cap, rfl, hle, hc⟩ := hs.strings
    have hn : n < agNamesL.length := by show n < 9; omega
    obtain ⟨b, off, rfl, hc⟩ := hc n hn
    have hc0 := hc n hn
    have hl : agNamesL.length = 9 := rfl
    have HC := Lib.hid hc
    rw [hl] at hle ⊢
    clear hc hs hl
    go_wp2_with fail
    go_ret
    refine ⟨?_, hb⟩
    rw [HN.out, List.getD_eq_getElem?_getD, List.getElem?_eq_getElem hn]
    rfl
  · have HN := Lib.hid (show agNameOf fn = ⟨#[]⟩ by unfold agNameOf; rw [if_neg h12])
    have hib2 : ib = false := by
      rw [hib]
      by_cases h1 : 1 ≤ fn
      · rw [decide_eq_false (show ¬ fn ≤ 8 by omega)]; simp
      · rw [decide_eq_false h1]; rfl
    subst hib2
    clear hib h12
    go_enter Tryd.func22, Tryd.ntmps22
    go_wp2_with fail
    refine (HIS.out _).mono ?_
    rintro e w0 ⟨rfl, rfl⟩
    go_wp2_with fail
    go_ret
    exact ⟨by first | rfl | (rw [HN.out]; rfl), Below.refl _ _⟩
set_option maxRecDepth 100000 in
theorem agrname_any (fn : Int) (w : World) : Calls Tryd.prog 23 #[.int .i64 fn] w fun e w' => e = .returned (.string (agNameOf fn)) ∧ Below w.heap.size w w' := by
  by_cases h1 : 1 ≤ fn
  · by_cases h2 : fn ≤ 8
    · obtain ⟨n, rfl⟩ : ∃ n : Nat, fn = n := ⟨fn.toNat, by omega⟩
      have hnm : agNameOf n = agNamesL.getD n ⟨#[]⟩ := by unfold agNameOf; rw [if_pos ⟨h1, h2⟩]; rfl
      have HN := Lib.hid hnm
      clear hnm
      go_enter Tryd.func23, Tryd.ntmps23
      go_wp2_with fail
      refine (agrnames_any _).mono ?_
      rintro e w1 ⟨v, rfl, hs, hb⟩
      obtain ⟨a, cap, rfl, hle, hc⟩ := hs.strings
      have hn : n < agNamesL.length := by show n < 9; omega
      obtain ⟨b, off, rfl, hc⟩ := hc n hn
      have hc0 := hc n hn
      have hl : agNamesL.length = 9 := rfl
      have HC := Lib.hid hc
      rw [hl] at hle ⊢
      clear hc hs hl
      go_wp2_with fail
      go_ret
      refine ⟨?_, hb⟩
      rw [HN.out, List.getD_eq_getElem?_getD, List.getElem?_eq_getElem hn]
      rfl
    · have HN := Lib.hid (show agNameOf fn = ⟨#[]⟩ by unfold agNameOf; rw [if_neg (by omega)])
      go_enter Tryd.func23, Tryd.ntmps23
      go_wp2_with fail
      go_ret
      exact ⟨by first | rfl | (rw [HN.out]; rfl), Below.refl _ _⟩
  · have HN := Lib.hid (show agNameOf fn = ⟨#[]⟩ by unfold agNameOf; rw [if_neg (by omega)])
    have h3 : fn < 1 := by omega
    go_enter Tryd.func23, Tryd.ntmps23
    go_wp2_with fail
    go_ret
    exact ⟨by first | rfl | (rw [HN.out]; rfl), Below.refl _ _⟩

def agFind (s : ByteArray) : List ByteArray → Nat → Int
  | [], _ => -1
  | x :: l, k => if x.toList = s.toList then (k : Int) else agFind s l (k + 1)
theorem agFind_drop (s : ByteArray) (xs : List ByteArray) (k : Nat) (h : k < xs.length) : agFind s (xs.drop k) k = if (xs[k]).toList = s.toList then (k : Int) else agFind s (xs.drop (k + 1)) (k + 1) := by
  rw [List.drop_eq_getElem_cons h]; rfl

set_option maxHeartbeats 1000000 in
theorem agIndex_any (v : Value) (xs : List ByteArray) (s : ByteArray) (w : World) (h : Sl senc1 w v xs) :
    Calls Tryd.prog 63 #[v, .string s] w fun e w' => e = .returned (.int .i64 (agFind s xs 0)) ∧ w = w' := by
  obtain ⟨a, cap, rfl, ⟨hle, hcap⟩, hc⟩ := h.strings
  have HC := Lib.hid hc
  clear hc h
  go_enter Tryd.func63, Tryd.ntmps63
  go_wp2_with fail
  go_loopw [8] (fun i wr => ∃ k : Nat, k ≤ xs.length ∧ i = .int .i64 k ∧ agFind s (xs.drop k) k = agFind s xs 0 ∧ wr = w) (fun i _ => xs.length - (intOf i).toNat)
  case atStart => exact ⟨0, Nat.zero_le _, rfl, rfl, rfl⟩
  case round =>
    obtain ⟨k, hk, rfl, hv, rfl⟩ := hrel
    have HV := Lib.hid hv
    clear hv
    by_cases hlt : k < xs.length
    · obtain ⟨b, off, rfl, hcc⟩ := HC.out k hlt
      have hc0 := hcc k hlt
      have hd := agFind_drop s xs k hlt
      obtain ⟨x, hx⟩ : ∃ x, x = xs[k] := ⟨_, rfl⟩
      rw [← hx] at hc0 hd
      clear hcc hx
      have hk0 : (0 : Int) ≤ (k : Int) := Int.natCast_nonneg _
      have hk1 : (k : Int) < (xs.length : Int) := by omega
      by_cases heq : x.toList = s.toList
      · rw [if_pos heq] at hd
        have b1 : (x.toList == s.toList) = true := by simpa using heq
        have b2 : (s.toList == x.toList) = true := by simpa using heq.symm
        have HD := Lib.hid hd
        clear hd heq
        go_wp2_with fail
        go_ret
        exact ⟨ret_i (by rw [← HV.out, HD.out]), rfl⟩
      · rw [if_neg heq] at hd
        have b1 : (x.toList == s.toList) = false := by simpa using heq
        have b2 : (s.toList == x.toList) = false := by simpa using (fun e => heq (Eq.symm e))
        have HD := Lib.hid hd
        clear hd heq
        go_wp2_with fail
        go_roundw
        case rel => exact ⟨k + 1, by omega, by go_num, by rw [← HV.out, HD.out], by trivial⟩
        case measure => simp [intOf]; omega
    · obtain rfl : k = xs.length := by omega
      go_wp2_with fail
      go_ret
      exact ⟨ret_i (by rw [← HV.out, List.drop_length]; rfl), rfl⟩

def agNamedI (s : ByteArray) : Int × Bool := if agFind s agNamesL 0 < 1 then (0, false) else (agFind s agNamesL 0, true)
theorem agFind_bd (s : ByteArray) (xs : List ByteArray) : ∀ k : Nat, -1 ≤ agFind s xs k ∧ agFind s xs k ≤ (k + xs.length : Nat) := by
  induction xs with
  | nil => intro k; simp [agFind]
  | cons x xs ih =>
    intro k
    have := ih (k + 1)
    unfold agFind
    split <;> (simp only [List.length_cons]; omega)
theorem Tryd.agNamedEq (s : ByteArray) : agNamedI s = if agFind s (agNamesL.drop 1) 1 < 0 then (0, false) else (agFind s (agNamesL.drop 1) 1, true) := by
  have h0 : agFind s agNamesL 0 = if (⟨#[]⟩ : ByteArray).toList = s.toList then 0 else agFind s (agNamesL.drop 1) 1 := rfl
  unfold agNamedI
  by_cases he : (⟨#[]⟩ : ByteArray).toList = s.toList
  · have e : ∀ (l : List ByteArray) k, agFind s l k = agFind ⟨#[]⟩ l k := by
      intro l
      induction l with
      | nil => intro k; rfl
      | cons x l ih => intro k; unfold agFind; rw [ih, he]
    rw [e, e]
    decide +kernel
  · rw [h0, if_neg he]
    have hp : agFind s (agNamesL.drop 1) 1 = -1 ∨ 1 ≤ agFind s (agNamesL.drop 1) 1 := by
      have : ∀ (l : List ByteArray) (k : Nat), 1 ≤ k → agFind s l k = -1 ∨ 1 ≤ agFind s l k := by
        intro l
        induction l with
        | nil => intro k _; exact .inl rfl
        | cons x l ih =>
          intro k hk
          unfold agFind
          split
          · right; omega
          · exact ih (k + 1) (by omega)
      exact this _ 1 (by omega)
    rcases hp with h | h
    · rw [h]; rfl
    · rw [if_neg (by omega), if_neg (by omega)]

theorem agFind_lt (s : ByteArray) (xs : List ByteArray) : ∀ k : Nat, agFind s xs k < (k + xs.length : Nat) := by
  induction xs with
  | nil => intro k; simp [agFind]; omega
  | cons x xs ih =>
    intro k
    have := ih (k + 1)
    unfold agFind
    split <;> (simp only [List.length_cons]; omega)
set_option maxRecDepth 100000 in
theorem agNamed_any (s : ByteArray) (w : World) : Calls Tryd.prog 20 #[.string s] w fun e w' => e = .returned (.tuple #[.int .i64 (agNamedI s).1, .bool (agNamedI s).2]) ∧ Below w.heap.size w w' := by
  obtain ⟨R, hR⟩ : ∃ R, R = agNamedI s := ⟨_, rfl⟩
  rw [← hR]
  unfold agNamedI at hR
  have hbd := agFind_bd s agNamesL 0
  have hbd2 : agFind s agNamesL 0 ≤ 8 := by have := agFind_lt s agNamesL 0; simp only [show agNamesL.length = 9 from rfl] at this; omega
  obtain ⟨n, hn⟩ : ∃ n, n = agFind s agNamesL 0 := ⟨_, rfl⟩
  have hidx : ∀ v w2, Sl senc1 w2 v agNamesL → Calls Tryd.prog 63 #[v, .string s] w2 fun e w' => e = .returned (.int .i64 n) ∧ w2 = w' := fun v w2 h => by rw [hn]; exact agIndex_any v agNamesL s w2 h
  rw [← hn] at hR hbd hbd2
  have HIS := Lib.hid (fun w => aggIs_any n w)
  have HIDX := Lib.hid hidx
  clear hidx hn
  by_cases h1 : n < 1
  · rw [if_pos h1] at hR
    subst hR
    rw [show isB n = false by unfold isB; rw [decide_eq_false (show ¬ 1 ≤ n by omega)]; rfl] at HIS
    go_enter Tryd.func20, Tryd.ntmps20
    go_wp2_with fail
    refine (agNames_any _).mono ?_
    rintro e w1 ⟨v, rfl, hs, hb⟩
    go_wp2_with fail
    refine (HIDX.out _ _ hs).mono ?_
    rintro e w2 ⟨rfl, rfl⟩
    go_wp2_with fail
    refine (HIS.out _).mono ?_
    rintro e w0 ⟨rfl, rfl⟩
    go_wp2_with fail
    go_ret2
    exact ⟨rfl, hb⟩
  · rw [if_neg h1] at hR
    subst hR
    rw [show isB n = true by unfold isB; rw [decide_eq_true (show 1 ≤ n by omega), decide_eq_true (show n ≤ 8 by omega)]; rfl] at HIS
    go_enter Tryd.func20, Tryd.ntmps20
    go_wp2_with fail
    refine (agNames_any _).mono ?_
    rintro e w1 ⟨v, rfl, hs, hb⟩
    go_wp2_with fail
    refine (HIDX.out _ _ hs).mono ?_
    rintro e w2 ⟨rfl, rfl⟩
    go_wp2_with fail
    refine (HIS.out _).mono ?_
    rintro e w0 ⟨rfl, rfl⟩
    go_wp2_with fail
    go_ret2
    exact ⟨rfl, hb⟩

set_option maxRecDepth 100000 in
set_option maxHeartbeats 1000000 in
theorem agrnamed_any (s : ByteArray) (w : World) : Calls Tryd.prog 21 #[.string s] w fun e w' => e = .returned (.tuple #[.int .i64 (agNamedI s).1, .bool (agNamedI s).2]) ∧ Below w.heap.size w w' := by
  obtain ⟨R, hR⟩ : ∃ R, R = agNamedI s := ⟨_, rfl⟩
  rw [← hR]
  rw [Tryd.agNamedEq] at hR
  have HR := Lib.hid hR
  clear hR
  obtain ⟨xs, hxs⟩ : ∃ xs, xs = agNamesL := ⟨_, rfl⟩
  have hl15 : xs.length = 9 := by rw [hxs]; rfl
  have hnames := agrnames_any w
  rw [← hxs] at hnames HR
  have HNM := Lib.hid hnames
  clear hnames hxs
  go_enter Tryd.func21, Tryd.ntmps21
  go_wp2_with fail
  refine HNM.out.mono ?_
  rintro e w1 ⟨v, rfl, hs, hb⟩
  obtain ⟨a, cap, rfl, ⟨hle, hcap⟩, hc⟩ := hs.strings
  have HC := Lib.hid hc
  have HB := Lib.hid hb
  clear hc hs hb
  go_wp2_with fail
  go_loopw [5] (fun i wr => ∃ k : Nat, 1 ≤ k ∧ k ≤ xs.length ∧ i = .int .i64 k ∧ agFind s (xs.drop k) k = agFind s (xs.drop 1) 1 ∧ wr = w1) (fun i _ => xs.length - (intOf i).toNat)
  case atStart => exact ⟨1, by omega, by omega, rfl, rfl, rfl⟩
  case round =>
    obtain ⟨k, hk1, hk, rfl, hv, rfl⟩ := hrel
    have HV := Lib.hid hv
    clear hv
    by_cases hlt : k < xs.length
    · obtain ⟨b, off, rfl, hcc⟩ := HC.out k hlt
      have hc0 := hcc k hlt
      have hd := agFind_drop s xs k hlt
      obtain ⟨x, hx⟩ : ∃ x, x = xs[k] := ⟨_, rfl⟩
      rw [← hx] at hc0 hd
      clear hcc hx
      have hk0 : (0 : Int) ≤ (k : Int) := Int.natCast_nonneg _
      have hk1 : (k : Int) < (xs.length : Int) := by omega
      by_cases heq : x.toList = s.toList
      · rw [if_pos heq] at hd
        have b1 : (x.toList == s.toList) = true := by simpa using heq
        have b2 : (s.toList == x.toList) = true := by simpa using heq.symm
        have HD := Lib.hid hd
        clear hd heq
        go_wp2_with fail
        go_ret2
        have hr := HR.out
        rw [← HV.out, HD.out, if_neg (by omega)] at hr
        subst hr
        exact ⟨rfl, HB.out⟩
      · rw [if_neg heq] at hd
        have b1 : (x.toList == s.toList) = false := by simpa using heq
        have b2 : (s.toList == x.toList) = false := by simpa using (fun e => heq (Eq.symm e))
        have HD := Lib.hid hd
        clear hd heq
        go_wp2_with fail
        go_roundw
        case rel => exact ⟨k + 1, by omega, by omega, by go_num, by rw [← HV.out, HD.out], by trivial⟩
        case measure => simp [intOf]; omega
    · obtain rfl : k = xs.length := by omega
      go_wp2_with fail
      go_ret2
      have hr := HR.out
      rw [← HV.out, List.drop_length] at hr
      obtain rfl : R = (0, false) := hr
      exact ⟨rfl, HB.out⟩
end Go.Proofs.YtogjcaakfnfapaaDoor
