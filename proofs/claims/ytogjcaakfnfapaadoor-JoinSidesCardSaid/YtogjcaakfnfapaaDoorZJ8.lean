/- has: whether a point is among some. topk and bottomk of a vector: plain law. Joins, plain law: parts of a vector; the mirror of an operator. (Several texts in one file, by merge.py.) -/
import Derived.Test.YtogjcaakfnfapaaDoorZJ7
import Derived.Test.YtogjcaakfnfapaaDoorZA7
import Derived.Test.YtogjcaakfnfapaaDoorZA9
import Derived.Test.YtogjcaakfnfapaaDoorZJ2
namespace Go.Proofs.YtogjcaakfnfapaaDoor
open Go Go.RowKit
set_option linter.unusedVariables false
set_option linter.unusedSimpArgs false
set_option maxRecDepth 100000
noncomputable def hasP (ps : List Pt) (p : Pt) : Bool := ps.any fun q => vsameL [q] [p]
theorem hasP_drop {ps : List Pt} {p : Pt} {k : Nat} (h : k < ps.length) : hasP (ps.drop k) p = (vsameL [ps[k]] [p] || hasP (ps.drop (k + 1)) p) := by
  rw [List.drop_eq_getElem_cons h]; rfl
theorem one_lit (w : World) (lv : Value) (l : List Lb) (x : Nat) (hl : Sl lenc w lv l) : VS (w.alloc (.cells #[lv, .float .f64 x] 42)) (.slice (some ⟨w.heap.size, 0, none⟩) 1 1) [(l, x)] :=
  vs_of (zs := [(lv, l, x)]) (Sl.lit (heap_new _ _) rfl rfl (by decide)) (fun z hz => by
    rw [List.mem_singleton.1 hz]
    exact hl.below ((Below.refl _ _).alloc (Nat.le_refl _) _) (Nat.le_refl _))
set_option maxHeartbeats 4000000 in
theorem has_any (v lv : Value) (ps : List Pt) (l : List Lb) (x : Nat) (w : World) (h : VS w v ps) (hl : Sl lenc w lv l) :
    Calls Tryd.prog 26 #[v, .agg #[lv, .float .f64 x]] w fun e w' => e = .returned (.bool (hasP ps (l, x))) ∧ Below w.heap.size w w' := by
  have HVS := Lib.hid h
  have HSL := Lib.hid hl
  obtain ⟨a, cap, rfl, hlen, -⟩ := h.split
  obtain ⟨al, cl, rfl, -, -⟩ := id hl
  obtain ⟨nl, hnl⟩ : ∃ n, n = l.length := ⟨_, rfl⟩
  rw [← hnl] at HSL ⊢
  have HONE := Lib.hid (fun (k : Nat) (hk : k < ps.length) => HVS.out.one hk)
  clear h hl hnl
  obtain ⟨N, hN⟩ : ∃ N, N = ps.length := ⟨_, rfl⟩
  rw [← hN] at hlen HVS ⊢
  have HN := Lib.hid hN
  clear hN
  obtain ⟨w0, hw0⟩ : ∃ w0, w0 = w.alloc (.cells #[.slice al nl cl, .float .f64 x] 42) := ⟨_, rfl⟩
  have hb0 : Below w.heap.size w w0 := by rw [hw0]; exact (Below.refl _ _).alloc (Nat.le_refl _) _
  obtain ⟨bg, hbg⟩ : ∃ b, b = w.heap.size := ⟨_, rfl⟩
  have g0 : w0.cell? ⟨bg, 0, none⟩ = some (.slice al nl cl) := by rw [hw0, hbg]; simp
  have g1 : w0.cell? ⟨bg, 1, none⟩ = some (.float .f64 x) := by rw [hw0, hbg]; simp
  have HW0 := Lib.hid hw0
  have HB0 := Lib.hid hb0
  have HBG := Lib.hid hbg
  have G0 := Lib.hid g0
  have G1 := Lib.hid g1
  clear hw0 hb0 hbg g0 g1
  go_enter Tryd.func26, Tryd.ntmps26
  go_wp2_with fail
  rw [← HW0.out, ← HBG.out]
  go_loopw [5] (fun i wr => ∃ k : Nat, k ≤ N ∧ i = .int .i64 k ∧ Hid (hasP (ps.drop k) (l, x) = hasP ps (l, x)) ∧ Hid (Below w0.heap.size w0 wr)) (fun i _ => N - (intOf i).toNat)
  case atStart => exact ⟨0, Nat.zero_le _, rfl, rfl, Below.refl _ _⟩
  case round =>
    obtain ⟨k, hk, rfl, HV, HB⟩ := hrel
    have h00 : (0 : Int) ≤ (k : Int) := by omega
    have hBz := HB.out.size
    by_cases hlt : k < N
    · have hltz : (k : Int) < (N : Int) := by omega
      have hkp : k < ps.length := by have := HN.out; omega
      have g0 := cell_below HB.out (Nat.le_refl _) G0.out
      have g1 := cell_below HB.out (Nat.le_refl _) G1.out
      obtain ⟨a4, c4, E4, hv4⟩ := HONE.out k hkp
      rw [← HN.out] at E4
      have hbw : Below w.heap.size w wr := HB0.out.trans (HB.out.mono HB0.out.size)
      have HCS := Lib.hid (fun (v2 : Value) w' (hb : Below wr.heap.size wr w') (h2 : VS w' v2 [(l, x)]) => csame_any (.slice a4 1 c4) v2 [ps[k]] [(l, x)] w' (hv4.below (hbw.trans (hb.mono hbw.size)) (Nat.le_refl _)) h2)
      have HSB := Lib.hid (fun w' (hb : Below wr.heap.size wr w') => HSL.out.below (hbw.trans (hb.mono hbw.size)) (Nat.le_refl _))
      obtain ⟨r, hr⟩ : ∃ r, r = vsameL [ps[k]] [(l, x)] := ⟨_, rfl⟩
      rw [← hr] at HCS
      have HD := Lib.hid (show hasP (ps.drop k) (l, x) = (r || hasP (ps.drop (k + 1)) (l, x)) by rw [hr]; exact hasP_drop hkp)
      have hw4 : IntKind.i64.wrap ((k : Int) + 1) = (k : Int) + 1 := by rw [IntKind.wrap_i64] <;> omega
      have h04 : (k : Int) + 1 ≤ (cap : Int) := by omega
      clear hr hv4 hbw
      go_wp2_with fail
      have hbA : Below wr.heap.size wr wr := Below.refl _ _
      go_region_held3 (fun w' => w'.cell? ⟨bg, 0, none⟩ = some (.slice al nl cl) ∧ w'.cell? ⟨bg, 1, none⟩ = some (.float .f64 x))
        (exact ⟨cell_below (B := wr.heap.size) (by go_grown) (Nat.le_refl _) g0, cell_below (B := wr.heap.size) (by go_grown) (Nat.le_refl _) g1⟩)
        ((go_at_call 45
          refine (HCS.out _ _ (by go_grown) ((one_lit wr (.slice al nl cl) l x (HSB.out _ (Below.refl _ _))).below (by go_grown) (Nat.le_refl _))).mono ?_
          rintro e w9 ⟨rfl, hb9⟩
          have hbA : Below wr.heap.size wr w9 := Below.trans (by go_grown) (hb9.mono (by first | exact Nat.le_refl _ | (simp; done) | (simp; omega)))))
      have HBA := Lib.hid hbA
      clear hbA hb9
      cases r with
      | true =>
        have HF := Lib.hid (show hasP ps (l, x) = true by rw [← HV.out, HD.out]; rfl)
        go_wp2_with fail
        go_ret
        exact ⟨by rw [HF.out] <;> rfl, HB0.out.trans ((HB.out.trans (HBA.out.mono hBz)).mono HB0.out.size)⟩
      | false =>
        go_wp2_with fail
        go_roundw
        case rel => exact ⟨k + 1, by omega, by go_num, by show _ = _; rw [← HV.out, HD.out]; rfl, HB.out.trans (HBA.out.mono hBz)⟩
        case measure => simp [intOf]; omega
    · have hltz : ¬ (k : Int) < (N : Int) := by omega
      have HF := Lib.hid (show hasP ps (l, x) = false by rw [← HV.out, List.drop_eq_nil_of_le (by have := HN.out; omega)]; rfl)
      go_wp2_with fail
      go_ret
      exact ⟨by rw [HF.out] <;> rfl, HB0.out.trans (HB.out.mono HB0.out.size)⟩
end Go.Proofs.YtogjcaakfnfapaaDoor
namespace Go.Proofs.YtogjcaakfnfapaaDoor
open Go Go.RowKit Go.Sort
set_option linter.unusedVariables false
set_option linter.unusedSimpArgs false
theorem vright_parts {ps : List Pt} (h : vrightL ps = true) : Strict ps ∧ ∀ p ∈ ps, rightL p.1 = true := by
  have hv : VRight ps := by
    unfold vrightL at h
    exact @of_decide_eq_true _ (Classical.propDecidable _) h
  refine ⟨?_, fun p hp => ?_⟩
  · have hadj : ∀ k (h0 : k + 1 < ps.length), cmpL ps[k].1 ps[k + 1].1 < 0 := fun k h0 => (hv (k + 1) h0).2 (by omega)
    unfold Strict
    rw [List.pairwise_iff_getElem]
    intro i j hi hj hij
    induction j with
    | zero => omega
    | succ j ih =>
      by_cases hj2 : i = j
      · subst hj2; exact hadj i hj
      · have h1 := ih (by omega) (by omega)
        exact (cmpL_trans _ _ _ (by omega) (by have := hadj j hj; omega)).2 (.inl h1)
  · obtain ⟨k, hk, rfl⟩ := List.mem_iff_getElem.1 hp
    exact (hv k hk).1
/-- An answer of Normal to points that can be put in order. -/
theorem nr_of {l t : List Pt} {e : Ending} {w : World} (hr : ∀ p ∈ l, rightL p.1 = true) (ht : Strict t) (hp : t.Perm (l.map canonP)) (h : NR l e w) : ∃ v, e = .returned (.tuple #[v, .int .i64 0]) ∧ VS w v t := by
  rcases h with ⟨⟨p, hpp, h1⟩, -⟩ | ⟨-, h1, -⟩ | ⟨-, q, v', h1, h2, h3, h4⟩
  · rw [hr p hpp] at h1; cases h1
  · exact absurd ht (h1 _ hp)
  · have : q = t := strictp_unique (h1.trans hp.symm) h2 ht
    subst this
    exact ⟨v', h3, h4⟩
theorem fo_fenc (x o : Int) (hx : x.natAbs < 2 ^ 53) (ho : o.natAbs < 2 ^ 53) : fo (fenc x) (fenc o) = some (compare x o) := by
  have := order_units (fenc_val x hx) (fenc_val o ho)
  rw [sgn_fenc, sgn_fenc] at this
  have hT : (0 : Int) < (TU : Int) := by have := TU_pos; omega
  show Ieee.double.order (fenc x) (fenc o) = _
  rw [this]
  have lt : x * (TU : Int) < o * (TU : Int) ↔ x < o := Int.mul_lt_mul_right hT
  have eq : x * (TU : Int) = o * (TU : Int) ↔ x = o := Int.mul_eq_mul_right_iff (by omega)
  congr 1
  simp only [compare, compareOfLessAndEq, lt, eq]
theorem cntP_fenc (k n : Nat) (hk : k ≤ 1000) (hn : n ≤ 1000) : cntP (fenc (k : Int)) n = decide (n + 1 ≤ k) := by
  unfold cntP leF
  rw [fo_fenc _ _ (by omega) (by omega), Bool.eq_iff_iff]
  have hcmp : compare ((n : Int) + 1) (k : Int) = if (n : Int) + 1 < k then .lt else if (n : Int) + 1 = k then .eq else .gt := rfl
  rw [hcmp]
  by_cases h1 : (n : Int) + 1 < k
  · simp [h1]; omega
  · by_cases h2 : (n : Int) + 1 = k
    · simp [h1, h2]; omega
    · simp [h1, h2]; omega
theorem cntN_fenc (k len : Nat) (hk : k ≤ 1000) (hl : len ≤ 1000) : cntN (fenc (k : Int)) len = min k len :=
  cntN_of (fun j hj => by rw [cntP_fenc k j hk (by omega)]; exact decide_eq_true (by omega)) (by omega) (fun h => by rw [cntP_fenc k _ hk (by omega)]; exact decide_eq_false (by omega))
theorem firsts_all {β : Type} (gl : β → List Lb) (zs : List β) (h : ∀ z, gl z = []) (hne : zs ≠ []) : firstsG gl zs = [[]] := by
  have : ∀ zs : List β, firstsG gl zs = if zs = [] then [] else [[]] := by
    refine take_ind ?_ ?_
    · rfl
    · intro l z ih
      rw [firsts_snoc, ih, h z]
      by_cases e : l = []
      · subst e; simp
      · simp [e]
  rw [this, if_neg hne]
def topP (op : Int) (n : Nat) (ps : List Pt) : List Pt := (stabF (aheadP op) ps).take n
theorem agg_all (op : Int) (k : Nat) (ps : List Pt) (h : takesB op = true) : aggP op 0 [] k ps = topP op (cntN k ps.length) ps := by
  have hg : ∀ p, glP 0 [] p = [] := fun p => rfl
  by_cases he : ps = []
  · subst he; rfl
  · unfold aggP topP
    rw [firsts_all _ _ hg he, List.flatMap_cons, List.flatMap_nil, List.append_nil, outP, if_pos h]
    have : membG (glP 0 []) ps [] = ps := List.filter_eq_self.2 fun p _ => decide_eq_true (hg p)
    rw [this]
theorem top_sub {op : Int} {n : Nat} {ps : List Pt} : ∀ p ∈ topP op n ps, p ∈ ps := fun p hp => (stab_perm _ _).subset (List.mem_of_mem_take hp)
theorem top_len {op : Int} {n : Nat} {ps : List Pt} : (topP op n ps).length = min n ps.length := by
  unfold topP; rw [List.length_take, (stab_perm _ _).length_eq]
theorem strict_pts_nodup {ps : List Pt} (h : Strict ps) : ps.Nodup := (List.pairwise_map.1 (strict_nodup h)).imp fun hab e => hab (by rw [e])
theorem top_nodup {op : Int} {n : Nat} {ps : List Pt} (h : Strict ps) : (topP op n ps).Nodup := by
  have h1 : (stabF (aheadP op) ps).Nodup := (stab_perm _ _).nodup_iff.2 (strict_pts_nodup h)
  exact h1.sublist (List.take_sublist _ _)
/-- The chosen points, in the vector's order. -/
noncomputable def topS (op : Int) (n : Nat) (ps : List Pt) : List Pt := ps.filter fun p => @decide (p ∈ topP op n ps) (Classical.propDecidable _)
theorem mem_topS {op : Int} {n : Nat} {ps : List Pt} {p : Pt} : p ∈ topS op n ps ↔ p ∈ topP op n ps := by
  unfold topS
  rw [List.mem_filter]
  constructor
  · rintro ⟨-, h⟩; exact @of_decide_eq_true _ (Classical.propDecidable _) h
  · intro h; exact ⟨top_sub p h, @decide_eq_true _ (Classical.propDecidable _) h⟩
theorem topS_strict {op : Int} {n : Nat} {ps : List Pt} (h : Strict ps) : Strict (topS op n ps) := List.Pairwise.filter _ h
theorem canon_strict {ps : List Pt} (h : Strict ps) : Strict (ps.map canonP) := by
  unfold Strict; rw [List.pairwise_map]; exact h
theorem topS_perm {op : Int} {n : Nat} {ps : List Pt} (h : Strict ps) : (topS op n ps).Perm (topP op n ps) :=
  (List.perm_ext_iff_of_nodup (strict_pts_nodup (topS_strict h)) (top_nodup h)).2 fun p => mem_topS
theorem nr_top {op : Int} {n : Nat} {ps : List Pt} {e : Ending} {w : World} (hs : Strict ps) (hr : ∀ p ∈ ps, rightL p.1 = true) (h : NR (topP op n ps) e w) : ∃ v, e = .returned (.tuple #[v, .int .i64 0]) ∧ VS w v ((topS op n ps).map canonP) :=
  nr_of (fun p hp => hr p (top_sub p hp)) (canon_strict (topS_strict hs)) ((topS_perm hs).map _) h
theorem aggr_top {op : Int} {k : Nat} {ps : List Pt} {e : Ending} {w : World} (h6 : op = 6 ∨ op = 7) (hs : Strict ps) (hr : ∀ p ∈ ps, rightL p.1 = true) (h : AggR op 0 [] k ps e w) : ∃ v, e = .returned (.tuple #[v, .int .i64 0]) ∧ VS w v ((topS op (cntN k ps.length) ps).map canonP) := by
  rcases h with ⟨h1 | h1, -⟩ | ⟨-, -, h3⟩
  · rcases h6 with rfl | rfl <;> exact absurd h1 (by decide)
  · exact absurd (show chkL 0 [] = 0 by decide +kernel) h1
  · rw [agg_all op k ps (by rcases h6 with rfl | rfl <;> rfl)] at h3
    exact nr_top hs hr h3
theorem topS_len {op : Int} {n : Nat} {ps : List Pt} (h : Strict ps) : ((topS op n ps).map canonP).length = min n ps.length := by
  rw [List.length_map, (topS_perm h).length_eq, top_len]
theorem same_point {ps : List Pt} (h : Strict ps) {s p : Pt} (hs : s ∈ ps) (hp : p ∈ ps) (e : s.1 = p.1) : s = p := by
  obtain ⟨i, hi, rfl⟩ := List.mem_iff_getElem.1 hs
  obtain ⟨j, hj, rfl⟩ := List.mem_iff_getElem.1 hp
  have h1 := List.pairwise_iff_getElem.1 h
  rcases Nat.lt_trichotomy i j with c | c | c
  · have := h1 i j hi hj c; rw [e, cmpL_refl] at this; omega
  · subst c; rfl
  · have := h1 j i hj hi c; rw [e, cmpL_refl] at this; omega
/-- A point of the vector is among the chosen ones just if it is one. -/
theorem has_top {op : Int} {n : Nat} {ps : List Pt} (h : Strict ps) {p : Pt} (hp : p ∈ ps) : hasP ((topS op n ps).map canonP) p = @decide (p ∈ topP op n ps) (Classical.propDecidable _) := by
  rw [Bool.eq_iff_iff]
  unfold hasP
  rw [List.any_eq_true]
  constructor
  · rintro ⟨q, hq, hs⟩
    obtain ⟨s, hs1, rfl⟩ := List.mem_map.1 hq
    have h1 : cmpL s.1 p.1 = 0 := ((@of_decide_eq_true _ (Classical.propDecidable _) hs : VSame [canonP s] [p]).2 0 (by simp) (by simp)).1
    have h2 : s = p := by
      have hs2 : s ∈ ps := top_sub s (mem_topS.1 hs1)
      exact same_point h hs2 hp ((cmpL_eq _ _).1 h1)
    subst h2
    exact @decide_eq_true _ (Classical.propDecidable _) (mem_topS.1 hs1)
  · intro hd
    have h1 := @of_decide_eq_true _ (Classical.propDecidable _) hd
    refine ⟨canonP p, List.mem_map_of_mem (mem_topS.2 h1), vsame_yes ⟨rfl, fun k hk hk2 => ?_⟩⟩
    have : k = 0 := by simp at hk; omega
    subst this
    refine ⟨cmpL_refl _, ?_⟩
    show fsame (canon p.2) p.2 = true
    unfold fsame; rw [canon_canon]; simp
theorem before_canon_l (a b : Nat) : beforeF (canon a) b = beforeF a b := by
  cases h : fnan a with
  | false => rw [canon_num h]
  | true =>
    rw [canon_nan h, before_key, before_key]
    have h1 := fcls_nan h
    have h2 := fcls_nan CN_nan
    have z1 : fz a = 0 := by unfold fz zer; rw [fo_nan_l 0 h]; rfl
    have z2 : fz CN = 0 := by unfold fz zer; rw [fo_nan_l 0 CN_nan]; rfl
    rw [h1.1, h1.2, h2.1, h2.2, z1, z2]
theorem stab_pairs (op : Int) (ps : List Pt) : (stabF (aheadP op) ps).Pairwise fun a b => aheadP op b a = false := by
  have hS : SWO (aheadP op) := by
    have h := keylt_swo (fun z : Pt => akey op z.2)
    have e : aheadP op = fun x y => keylt (akey op x.2) (akey op y.2) := by
      funext x y; exact ahead_key op _ _
    rw [e]; exact h
  have h := stab_sorted hS ps
  have e : (stabF (fun a b : Pt × Nat => aheadP op a.1 b.1) ps.zipIdx).map Prod.fst = stabF (aheadP op) ps := by rw [stab_map Prod.fst (aheadP op), List.zipIdx_map_fst]
  rw [← e, List.pairwise_map]
  refine h.imp ?_
  intro a b hab
  unfold lexI at hab
  rw [Bool.or_eq_false_iff] at hab
  exact hab.1
/-- None that topk leaves out comes behind one that it has. -/
theorem top_ahead {n : Nat} {ps : List Pt} {p q : Pt} (hp : p ∈ ps) (hn : p ∉ topP 6 n ps) (hq : q ∈ (topS 6 n ps).map canonP) : beforeF q.2 p.2 = false := by
  obtain ⟨s, hs, rfl⟩ := List.mem_map.1 hq
  show beforeF (canon s.2) p.2 = false
  rw [before_canon_l]
  have hsT := mem_topS.1 hs
  have hpL : p ∈ stabF (aheadP 6) ps := (stab_perm _ _).symm.subset hp
  obtain ⟨i, hi, e1⟩ := List.mem_iff_getElem.1 hsT
  obtain ⟨j, hj, e2⟩ := List.mem_iff_getElem.1 hpL
  unfold topP at hi e1
  rw [List.length_take] at hi
  rw [List.getElem_take] at e1
  have hij : i < j := by
    rcases Nat.lt_or_ge j n with h | h
    · exfalso
      apply hn
      unfold topP
      rw [← e2]
      exact List.mem_take_iff_getElem.2 ⟨j, by omega, rfl⟩
    · omega
  have := List.pairwise_iff_getElem.1 (stab_pairs 6 ps) i j (by omega) hj hij
  rw [e1, e2] at this
  exact this
theorem top_more {n m : Nat} {ps : List Pt} {p : Pt} (h : n ≤ m) (hp : p ∈ topP 6 n ps) : p ∈ topP 6 m ps := by
  unfold topP at *
  exact (List.take_sublist_take_left h).subset hp
end Go.Proofs.YtogjcaakfnfapaaDoor
namespace Go.Proofs.YtogjcaakfnfapaaDoor
open Go Go.RowKit
set_option linter.unusedVariables false
set_option linter.unusedSimpArgs false
theorem canonP_canonP (p : Pt) : canonP (canonP p) = canonP p := by show (p.1, canon (canon p.2)) = _; rw [canon_canon]; rfl
theorem canonP_map (ps : List Pt) : (ps.map canonP).map canonP = ps.map canonP := by
  rw [List.map_map]; exact List.map_congr_left fun p _ => canonP_canonP p
theorem nr_perm {ps qs : List Pt} {e : Ending} {w : World} (hp : qs.Perm ps) (h : NR ps e w) : NR qs e w := by
  rcases h with ⟨⟨p, h1, h2⟩, he⟩ | ⟨h1, h2, he⟩ | ⟨h1, q, v, h2, h3, he, h4⟩
  · exact .inl ⟨⟨p, hp.symm.subset h1, h2⟩, he⟩
  · exact .inr (.inl ⟨fun p hh => h1 p (hp.subset hh), fun t ht => h2 t (ht.trans (hp.map canonP)), he⟩)
  · exact .inr (.inr ⟨fun p hh => h1 p (hp.subset hh), q, v, h2.trans (hp.symm.map canonP), h3, he, h4⟩)
theorem strict_canon {ps : List Pt} (h : Strict ps) : Strict (ps.map canonP) := by
  unfold Strict
  rw [List.pairwise_map]
  exact h
/-- An answer of Normal to some of the points of a vector. -/
theorem nr_part {ps : List Pt} {c : Pt → Bool} {e : Ending} {w : World} (hr : ∀ p ∈ ps, rightL p.1 = true) (hs : Strict ps) (h : NR (ps.filter c) e w) :
    ∃ v, e = .returned (.tuple #[v, .int .i64 0]) ∧ VS w v ((ps.filter c).map canonP) :=
  nr_of (fun p hp => hr p (List.mem_filter.1 hp).1) (strict_canon (hs.sublist List.filter_sublist)) (.refl _) h
theorem set_and (how : Int) (names : List ByteArray) (ps qs : List Pt) : setP 11 how names ps qs = ps.filter fun p => hasSg (sgP how names) qs (sgP how names p) := by
  unfold setP
  have h1 : ∀ h, keepB 11 h = h := by decide
  have h2 : ∀ h, addB 11 h = false := by decide
  simp only [h1, h2]
  simp
theorem set_less (how : Int) (names : List ByteArray) (ps qs : List Pt) : setP 13 how names ps qs = ps.filter fun p => !hasSg (sgP how names) qs (sgP how names p) := by
  unfold setP
  have h1 : ∀ h, keepB 13 h = !h := by decide
  have h2 : ∀ h, addB 13 h = false := by decide
  simp only [h1, h2]
  simp
theorem set_or (how : Int) (names : List ByteArray) (ps qs : List Pt) : setP 12 how names ps qs = ps ++ setP 13 how names qs ps := by
  rw [set_less]
  unfold setP
  have h1 : ∀ h, keepB 12 h = true := by decide
  have h2 : ∀ h, addB 12 h = !h := by decide
  simp only [h1, h2]
  simp
/-- The two parts make the whole. -/
theorem parts_all {ps X Y : List Pt} {c : Pt → Bool} {e : Ending} {w : World} (hr : ∀ p ∈ ps, rightL p.1 = true) (hs : Strict ps) (h1 : X = (ps.filter c).map canonP) (h2 : Y = (ps.filter fun p => !c p).map canonP) (h : NR (X ++ Y) e w) :
    ∃ v, e = .returned (.tuple #[v, .int .i64 0]) ∧ VS w v (ps.map canonP) := by
  have hp : ((ps.filter c) ++ (ps.filter fun p => !c p)).Perm ps := List.filter_append_perm c ps
  have hm : (X ++ Y).map canonP = ((ps.filter c) ++ (ps.filter fun p => !c p)).map canonP := by
    rw [h1, h2, List.map_append, List.map_append, canonP_map, canonP_map]
  have h3 : NR ps e w := nr_perm hp.symm (nr_congr hm h)
  exact nr_of hr (strict_canon hs) (.refl _) h3
theorem vsame_canon (ps : List Pt) : vsameL (ps.map canonP) ps = true := vsame_yes ⟨by simp, fun k h h2 => by
  rw [List.getElem_map]
  refine ⟨cmpL_refl _, ?_⟩
  show (canon (canon _) == canon _) = true
  rw [canon_canon]; simp⟩
theorem flatMap_nil_fun {α β : Type} (l : List α) : l.flatMap (fun _ => ([] : List β)) = [] := by
  induction l with
  | nil => rfl
  | cons a l ih => rw [List.flatMap_cons, ih]; rfl
theorem flatMap_app_perm {α β : Type} (f g : α → List β) : ∀ l : List α, (l.flatMap f ++ l.flatMap g).Perm (l.flatMap fun x => f x ++ g x)
  | [] => .refl _
  | a :: l => by
    rw [List.flatMap_cons, List.flatMap_cons, List.flatMap_cons]
    have ih := flatMap_app_perm f g l
    have h1 : (f a ++ l.flatMap f ++ (g a ++ l.flatMap g)).Perm (f a ++ (g a ++ (l.flatMap f ++ l.flatMap g))) := by
      rw [List.append_assoc]
      refine List.Perm.append_left _ ?_
      rw [← List.append_assoc, ← List.append_assoc]
      exact List.Perm.append_right _ List.perm_append_comm
    refine h1.trans ?_
    rw [List.append_assoc]
    exact List.Perm.append_left _ (List.Perm.append_left _ ih)
theorem flatMap_swap {α β γ : Type} (F : α → β → List γ) (qs : List β) : ∀ ps : List α, (ps.flatMap fun p => qs.flatMap fun q => F p q).Perm (qs.flatMap fun q => ps.flatMap fun p => F p q)
  | [] => by
    show List.Perm [] _
    rw [show (qs.flatMap fun q => ([] : List α).flatMap fun p => F p q) = qs.flatMap fun _ => [] from rfl, flatMap_nil_fun]
  | a :: ps => by
    rw [List.flatMap_cons]
    have ih := flatMap_swap F qs ps
    refine (List.Perm.append_left _ ih).trans ?_
    have := flatMap_app_perm (fun q => F a q) (fun q => ps.flatMap fun p => F p q) qs
    refine this.trans ?_
    exact .refl _
theorem flatMap_filter {α β : Type} (c : α → Bool) (f : α → List β) : ∀ l : List α, (l.filter c).flatMap f = l.flatMap fun x => if c x = true then f x else []
  | [] => rfl
  | a :: l => by
    rw [List.filter_cons, List.flatMap_cons]
    split
    · rw [List.flatMap_cons, flatMap_filter c f l]
    · rw [flatMap_filter c f l]; rfl
theorem flatMap_congr' {α β : Type} {f g : α → List β} {l : List α} (h : ∀ a ∈ l, f a = g a) : l.flatMap f = l.flatMap g := by
  induction l with
  | nil => rfl
  | cons a l ih => rw [List.flatMap_cons, List.flatMap_cons, h a (by simp), ih fun b hb => h b (by simp [hb])]
def mirO (op : Int) : Int := if op = 7 then 8 else if op = 8 then 7 else if op = 9 then 10 else if op = 10 then 9 else op
def mirC (card : Int) : Int := if card = 1 then 2 else if card = 2 then 1 else card
theorem order_swap (x y : Nat) : FloatKind.f64.format.order y x = (FloatKind.f64.format.order x y).map Ordering.swap := by
  show (FloatKind.f64.format.read y).order (FloatKind.f64.format.read x) = _
  show _ = ((FloatKind.f64.format.read x).order (FloatKind.f64.format.read y)).map Ordering.swap
  generalize FloatKind.f64.format.read x = a
  generalize FloatKind.f64.format.read y = b
  have hc : ∀ i j : Int, compare j i = (compare i j).swap := fun i j => (Int.compare_swap i j).symm
  have hn : ∀ i j : Nat, compare j i = (compare i j).swap := fun i j => (Nat.compare_swap i j).symm
  cases a with
  | nan => cases b <;> rfl
  | infinity s =>
    cases b with
    | nan => rfl
    | infinity t => simp only [Ieee.Datum.order, Option.map_some]; rw [hn]
    | number t n j => cases s <;> rfl
  | number s m i =>
    cases b with
    | nan => rfl
    | infinity t => cases t <;> rfl
    | number t n j =>
      simp only [Ieee.Datum.order, Option.map_some]
      rw [Int.min_comm j i, hc]
theorem add_comm_bits (x y : Nat) : floatBits .add .f64 x y = floatBits .add .f64 y x := by
  show Option.map _ ((FloatKind.f64.format.read x).sum (FloatKind.f64.format.read y)) = Option.map _ ((FloatKind.f64.format.read y).sum (FloatKind.f64.format.read x))
  congr 1
  generalize FloatKind.f64.format.read x = a
  generalize FloatKind.f64.format.read y = b
  cases a with
  | nan => cases b <;> rfl
  | infinity s =>
    cases b with
    | nan => rfl
    | infinity t => cases s <;> cases t <;> rfl
    | number t n j => rfl
  | number s m i =>
    cases b with
    | nan => rfl
    | infinity t => rfl
    | number t n j =>
      simp only [Ieee.Datum.sum]
      rw [Int.min_comm j i, Int.add_comm, Bool.and_comm]
theorem mul_comm_bits (x y : Nat) : floatBits .mul .f64 x y = floatBits .mul .f64 y x := by
  show Option.map _ ((FloatKind.f64.format.read x).product (FloatKind.f64.format.read y)) = Option.map _ ((FloatKind.f64.format.read y).product (FloatKind.f64.format.read x))
  congr 1
  generalize FloatKind.f64.format.read x = a
  generalize FloatKind.f64.format.read y = b
  cases a with
  | nan => cases b <;> rfl
  | infinity s =>
    cases b with
    | nan => rfl
    | infinity t => cases s <;> cases t <;> rfl
    | number t n j => simp only [Ieee.Datum.product, Bool.xor_comm s t]
  | number s m i =>
    cases b with
    | nan => rfl
    | infinity t => simp only [Ieee.Datum.product, Bool.xor_comm s t]
    | number t n j =>
      simp only [Ieee.Datum.product]
      rw [Nat.mul_comm, Int.add_comm, Bool.xor_comm]
theorem opV_mir (op : Int) (x y : Nat) (h : op = 1 ∨ op = 3 ∨ (5 ≤ op ∧ op ≤ 10)) : opV op x y = opV (mirO op) y x := by
  have hadd : cop .add x y = cop .add y x := by unfold cop; rw [add_comm_bits]
  have hmul : cop .mul x y = cop .mul y x := by unfold cop; rw [mul_comm_bits]
  have ho := order_swap x y
  have hg : ∀ o : Option Ordering, (o.map Ordering.swap == some .gt) = (o == some .lt) := by intro o; cases o with | none => rfl | some o => cases o <;> rfl
  have hl : ∀ o : Option Ordering, (o.map Ordering.swap == some .lt) = (o == some .gt) := by intro o; cases o with | none => rfl | some o => cases o <;> rfl
  have he : ∀ o : Option Ordering, (o.map Ordering.swap == some .eq) = (o == some .eq) := by intro o; cases o with | none => rfl | some o => cases o <;> rfl
  have hne : ∀ o : Option Ordering, (o.map Ordering.swap != some .eq) = (o != some .eq) := by intro o; cases o with | none => rfl | some o => cases o <;> rfl
  have key : holdsF op x y = holdsF (mirO op) y x ∨ op = 1 ∨ op = 3 := by
    rcases h with rfl | rfl | ⟨h1, h2⟩
    · exact .inr (.inl rfl)
    · exact .inr (.inr rfl)
    · refine .inl ?_
      obtain rfl | rfl | rfl | rfl | rfl | rfl : op = 5 ∨ op = 6 ∨ op = 7 ∨ op = 8 ∨ op = 9 ∨ op = 10 := by omega
      · show (FloatKind.f64.format.order x y == some .eq) = (FloatKind.f64.format.order y x == some .eq); rw [ho, he]
      · show (FloatKind.f64.format.order x y != some .eq) = (FloatKind.f64.format.order y x != some .eq); rw [ho, hne]
      · show (FloatKind.f64.format.order x y == some .gt) = (FloatKind.f64.format.order y x == some .lt); rw [ho, hl]
      · show (FloatKind.f64.format.order x y == some .lt) = (FloatKind.f64.format.order y x == some .gt); rw [ho, hg]
      · show (FloatKind.f64.format.order x y == some .gt || FloatKind.f64.format.order x y == some .eq) = (FloatKind.f64.format.order y x == some .lt || FloatKind.f64.format.order y x == some .eq); rw [ho, hl, he]
      · show (FloatKind.f64.format.order x y == some .lt || FloatKind.f64.format.order x y == some .eq) = (FloatKind.f64.format.order y x == some .gt || FloatKind.f64.format.order y x == some .eq); rw [ho, hg, he]
  rcases h with rfl | rfl | ⟨h1, h2⟩
  · exact hadd
  · exact hmul
  · have hk : holdsF op x y = holdsF (mirO op) y x := by
      rcases key with h | rfl | rfl
      · exact h
      · omega
      · omega
    have hm : 5 ≤ mirO op ∧ mirO op ≤ 10 := by unfold mirO; (repeat' split) <;> omega
    unfold opV
    rw [if_neg (by omega), if_neg (by omega), if_neg (by omega), if_neg (by omega), if_neg (by omega), if_neg (show ¬ mirO op = 1 by omega), if_neg (show ¬ mirO op = 2 by omega), if_neg (show ¬ mirO op = 3 by omega), if_neg (show ¬ mirO op = 4 by omega), if_neg (show ¬ (mirO op < 5 ∨ 10 < mirO op) by omega), hk]
theorem pair_mir {card how : Int} {names incl : List ByteArray} {a b : List Lb} (hc : 0 ≤ card ∧ card ≤ 2) (hs : signL how names a = signL how names b) : pairL card how names incl a b = pairL (mirC card) how names incl b a := by
  obtain rfl | rfl | rfl : card = 0 ∨ card = 1 ∨ card = 2 := by omega
  · exact hs
  · rfl
  · rfl
theorem opOk_mir {op : Int} (h : op = 1 ∨ op = 3 ∨ (5 ≤ op ∧ op ≤ 10)) : opOk op = true ∧ opOk (mirO op) = true := by
  obtain rfl | rfl | rfl | rfl | rfl | rfl | rfl | rfl : op = 1 ∨ op = 3 ∨ op = 5 ∨ op = 6 ∨ op = 7 ∨ op = 8 ∨ op = 9 ∨ op = 10 := by omega
  all_goals exact ⟨rfl, rfl⟩
theorem cellB_true (op : Int) (x y : Nat) : cellB op true x y = opOk op := if_pos (.inr rfl)
theorem cellV_true (op : Int) (x y : Nat) : cellV op true x y = opV op x y := if_pos (.inr rfl)
/-- What an operator makes, and its mirror of both the other way round. -/
theorem bin_mir {op card how : Int} {names incl : List ByteArray} (ps qs : List Pt) (ho : op = 1 ∨ op = 3 ∨ (5 ≤ op ∧ op ≤ 10)) (hc : 0 ≤ card ∧ card ≤ 2) :
    (binP (mirO op) (mirC card) how names incl true qs ps).Perm (binP op card how names incl true ps qs) := by
  have e1 : binP op card how names incl true ps qs = ps.flatMap fun p => qs.flatMap fun q => if sgP how names q = sgP how names p then pairP op card how names incl true p q else [] := by
    unfold binP membG
    refine flatMap_congr' fun p _ => ?_
    rw [flatMap_filter]
    refine flatMap_congr' fun q _ => ?_
    simp only [decide_eq_true_eq]
  have e2 : binP (mirO op) (mirC card) how names incl true qs ps = qs.flatMap fun q => ps.flatMap fun p => if sgP how names q = sgP how names p then pairP op card how names incl true p q else [] := by
    unfold binP membG
    refine flatMap_congr' fun q _ => ?_
    rw [flatMap_filter]
    refine flatMap_congr' fun p _ => ?_
    simp only [decide_eq_true_eq]
    by_cases hs : sgP how names q = sgP how names p
    · rw [if_pos hs, if_pos hs.symm]
      unfold pairP
      rw [cellB_true, cellB_true, (opOk_mir ho).2, (opOk_mir ho).1, if_pos rfl, if_pos rfl, cellV_true, cellV_true, opV_mir op p.2 q.2 ho, pair_mir hc (show signL how names p.1 = signL how names q.1 from hs.symm)]
    · rw [if_neg hs, if_neg (Ne.symm hs)]
  rw [e1, e2]
  exact (flatMap_swap _ qs ps).symm
theorem ite_iff' {a b : Prop} [Decidable a] [Decidable b] (h : a ↔ b) (x y : Int) : (if a then x else y) = if b then x else y := by
  by_cases hb : b
  · rw [if_pos hb, if_pos (h.2 hb)]
  · rw [if_neg hb, if_neg (fun ha => hb (h.1 ha))]
theorem mchk_mir (how : Int) (names : List ByteArray) (card : Int) (incl : List ByteArray) : mchkL how names (mirC card) incl = mchkL how names card incl := by
  unfold mchkL
  have : (mirC card < 0 ↔ card < 0) ∧ (2 < mirC card ↔ 2 < card) ∧ (mirC card = 0 ↔ card = 0) := by unfold mirC; refine ⟨?_, ?_, ?_⟩ <;> (split; omega; split <;> omega)
  refine ite_iff' ?_ _ _
  rw [this.1, this.2.1, this.2.2]
theorem mchk_card {how card : Int} {names incl : List ByteArray} (h : mchkL how names card incl = 0) : 0 ≤ card ∧ card ≤ 2 := by
  unfold mchkL at h
  split at h
  · cases h
  · omega
end Go.Proofs.YtogjcaakfnfapaaDoor
