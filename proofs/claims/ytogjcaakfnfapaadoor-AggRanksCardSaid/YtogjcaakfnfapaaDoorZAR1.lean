/- vector.Same; one point of a vector. has: whether a point is among some. topk and bottomk of a vector: plain law. AggRanks: the walk. (Several texts in one file, by merge.py.) -/
import Derived.Test.YtogjcaakfnfapaaDoorZB1
import Derived.Test.YtogjcaakfnfapaaDoorZA7
import Derived.Test.YtogjcaakfnfapaaDoorZA9
namespace Go.Proofs.YtogjcaakfnfapaaDoor
open Go Go.RowKit
set_option linter.unusedVariables false
set_option linter.unusedSimpArgs false
set_option maxRecDepth 100000
set_option maxHeartbeats 2000000 in
theorem same1_any (v1 v2 : Value) (b1 b2 : Nat) (l1 l2 : List Lb) (w : World) (h1 : Sl lenc w v1 l1) (h2 : Sl lenc w v2 l2) :
    Calls Tryd.prog 84 #[.agg #[v1, .float .f64 b1], .agg #[v2, .float .f64 b2]] w fun e w' => e = .returned (.bool (cmpL l1 l2 == 0 && fsame b1 b2)) ∧ Below w.heap.size w w' := by
  have HC := Lib.hid (fun w' (hb : Below w.heap.size w w') => compare_any v1 v2 l1 l2 w' (h1.below hb (Nat.le_refl _)) (h2.below hb (Nat.le_refl _)))
  obtain ⟨a1, cap1, rfl, -, -⟩ := h1
  obtain ⟨a2, cap2, rfl, -, -⟩ := h2
  obtain ⟨n1, hn1⟩ : ∃ n, n = l1.length := ⟨_, rfl⟩
  obtain ⟨n2, hn2⟩ : ∃ n, n = l2.length := ⟨_, rfl⟩
  rw [← hn1, ← hn2] at HC ⊢
  clear hn1 hn2
  obtain ⟨c, hc⟩ : ∃ c, c = cmpL l1 l2 := ⟨_, rfl⟩
  rw [← hc] at HC ⊢
  clear hc
  by_cases h0 : c = 0
  case' pos => have h0b : (c == 0) = true := by simpa using h0
  case' neg => have h0b : (c == 0) = false := by simpa using h0
  all_goals
    rw [h0b]
    go_enter Tryd.func84, Tryd.ntmps84
    go_wp2_with fail
    refine (HC.out _ (((Below.refl _ _).alloc (Nat.le_refl _) _).alloc (by simp) _)).mono ?_
    rintro e w1 ⟨rfl, hg⟩
    have q1 : w1.cell? ⟨w.heap.size, 1, none⟩ = some (.float .f64 b1) := cell_below hg.below (Nat.le_refl _) (by simp)
    have q2 : w1.cell? ⟨w.heap.size + 1, 1, none⟩ = some (.float .f64 b2) := cell_below hg.below (Nat.le_refl _) (by simp)
    have HG := Lib.hid (show Below w.heap.size w w1 from (((Below.refl _ _).alloc (Nat.le_refl _) _).alloc (by simp) _).trans (hg.below.mono (by simp; omega)))
    clear hg
    go_wp2_with (go_at_call 85; refine (same_any _ _ _).mono ?_; rintro e w2 ⟨rfl, rfl⟩)
    go_ret
    exact ⟨rfl, HG.out⟩
set_option maxHeartbeats 4000000 in
theorem vequal_any (v u : Value) (ps qs : List Pt) (w : World) (h : VS w v ps) (h' : VS w u qs) :
    Calls Tryd.prog 83 #[v, u, .func (.func 84) #[] #[]] w fun e w' => e = .returned (.bool (vsameL ps qs)) ∧ Below w.heap.size w w' := by
  obtain ⟨a, cap, rfl, hlen, hc⟩ := h.split
  obtain ⟨a2, cap2, rfl, hlen2, hc2⟩ := h'.split
  have HC := Lib.hid hc
  have HC2 := Lib.hid hc2
  clear hc hc2 h h'
  by_cases hl : ps.length = qs.length
  · have HL := Lib.hid hl
    obtain ⟨N, hN⟩ : ∃ N, N = ps.length := ⟨_, rfl⟩
    have hN2 : N = qs.length := hN.trans hl
    have HN := Lib.hid hN
    have HN2 := Lib.hid hN2
    rw [← hN] at hlen ⊢
    rw [← hN2] at hlen2 ⊢
    clear hl hN hN2
    go_enter Tryd.func83, Tryd.ntmps83
    go_wp2_with fail
    go_loopw [17] (fun i wr => ∃ (k : Nat), k ≤ N ∧ i = .int .i64 k ∧ Hid (∀ j (hj : j < ps.length) (hj2 : j < qs.length), j < k → cmpL ps[j].1 qs[j].1 = 0 ∧ fsame ps[j].2 qs[j].2 = true) ∧ Hid (Below w.heap.size w wr)) (fun i _ => N - (intOf i).toNat)
    case atStart => exact ⟨0, Nat.zero_le _, rfl, fun j _ _ hj => absurd hj (Nat.not_lt_zero _), Below.refl _ _⟩
    case round =>
      obtain ⟨k, hk, rfl, HV, HB⟩ := hrel
      have hBz := HB.out.size
      have h00 : (0 : Int) ≤ (k : Int) := by omega
      by_cases hlt : k < N
      · have hltz : (k : Int) < (N : Int) := by omega
        have hp : k < ps.length := by rw [← HN.out]; exact hlt
        have hq : k < qs.length := by rw [← HN2.out]; exact hlt
        obtain ⟨b, off, lv, rfl, k0, k1, hsl⟩ := HC.out k hp
        obtain ⟨b2, off2, lv2, rfl, k2, k3, hsl2⟩ := HC2.out k hq
        have p0 := cell_below HB.out (Nat.le_refl _) k0
        have p1 := cell_below HB.out (Nat.le_refl _) k1
        have p2 := cell_below HB.out (Nat.le_refl _) k2
        have p3 := cell_below HB.out (Nat.le_refl _) k3
        obtain ⟨x, hx⟩ : ∃ x, x = ps[k].2 := ⟨_, rfl⟩
        obtain ⟨y, hy⟩ : ∃ y, y = qs[k].2 := ⟨_, rfl⟩
        have HS1 := Lib.hid (fun w' (hb : Below w.heap.size w w') => same1_any lv lv2 ps[k].2 qs[k].2 ps[k].1 qs[k].1 w' (hsl.below hb (Nat.le_refl _)) (hsl2.below hb (Nat.le_refl _)))
        obtain ⟨a3, n3, c3, rfl⟩ : ∃ a n c, lv = .slice a n c := by
          obtain ⟨a2, c2, e, -⟩ := hsl
          exact ⟨a2, _, c2, e⟩
        obtain ⟨a4, n4, c4, rfl⟩ : ∃ a n c, lv2 = .slice a n c := by
          obtain ⟨a2, c2, e, -⟩ := hsl2
          exact ⟨a2, _, c2, e⟩
        have hlt2 : b2 < wr.heap.size := World.block_lt_of_cell? wr _ p2
        have hne : b2 ≠ wr.heap.size := by omega
        obtain ⟨r, hr⟩ : ∃ r, r = (cmpL ps[k].1 qs[k].1 == 0 && fsame ps[k].2 qs[k].2) := ⟨_, rfl⟩
        rw [← hr, ← hx, ← hy] at HS1
        rw [← hx] at p1
        rw [← hy] at p3
        have HRR := Lib.hid hr
        clear hsl hsl2 k0 k1 k2 k3 hx hy hr
        have HB2 := Lib.hid (show ∀ o1 o2, Below w.heap.size w ((wr.alloc o1).alloc o2) from fun o1 o2 => (HB.out.alloc hBz _).alloc (by simp; omega) _)
        cases r with
        | false =>
          have HF := Lib.hid (vsame_no (ps := ps) (qs := qs) fun h => by
            have h1 := h.2 k hp hq
            have h2 := HRR.out
            rw [h1.1, h1.2] at h2
            cases h2)
          go_wp2_with fail
          refine (HS1.out _ (HB2.out _ _)).mono ?_
          rintro e w3 ⟨rfl, hb3⟩
          have HB3 := Lib.hid ((HB2.out _ _).trans (hb3.mono (by simp; omega)))
          clear hb3
          go_wp2_with fail
          go_ret
          exact ⟨by rw [HF.out] <;> rfl, HB3.out⟩
        | true =>
          go_wp2_with fail
          refine (HS1.out _ (HB2.out _ _)).mono ?_
          rintro e w3 ⟨rfl, hb3⟩
          have HB3 := Lib.hid ((HB2.out _ _).trans (hb3.mono (by simp; omega)))
          clear hb3
          go_wp2_with fail
          go_roundw
          case rel => exact ⟨k + 1, by omega, by go_num, (fun j hj hj2 hj1 => by
            by_cases hjk : j = k
            · subst hjk
              have h2 := HRR.out.symm
              rw [Bool.and_eq_true] at h2
              exact ⟨by simpa using h2.1, h2.2⟩
            · exact HV.out j hj hj2 (by omega)), HB3.out⟩
          case measure => simp [intOf]; omega
      · have hltz : ¬ (k : Int) < (N : Int) := by omega
        have HF := Lib.hid (show vsameL ps qs = true from vsame_yes ⟨HL.out, fun j hj hj2 => HV.out j hj hj2 (by have := HN.out; omega)⟩)
        go_wp2_with fail
        go_ret
        exact ⟨by rw [HF.out] <;> rfl, HB.out⟩
  · have HF := Lib.hid (vsame_no (ps := ps) (qs := qs) fun h => hl h.1)
    have hz : ¬ (ps.length : Int) = (qs.length : Int) := by omega
    have hzb : ((ps.length : Int) == (qs.length : Int)) = false := by simpa using hz
    have hzc : ((ps.length : Int) != (qs.length : Int)) = true := by simpa using hz
    go_enter Tryd.func83, Tryd.ntmps83
    go_wp2_with fail
    go_ret
    exact ⟨by rw [HF.out] <;> rfl, Below.refl _ _⟩
theorem csame_any (v u : Value) (ps qs : List Pt) (w : World) (h : VS w v ps) (h' : VS w u qs) :
    Calls Tryd.prog 45 #[v, u] w fun e w' => e = .returned (.bool (vsameL ps qs)) ∧ Below w.heap.size w w' := by
  have HE := Lib.hid (vequal_any v u ps qs w h h')
  clear h h'
  go_enter Tryd.func45, Tryd.ntmps45
  go_wp2_with fail
  refine HE.out.mono ?_
  rintro e w1 ⟨rfl, hb⟩
  have HB := Lib.hid hb
  clear hb
  go_wp2_with fail
  go_ret
  exact ⟨rfl, HB.out⟩
theorem Tryd.elemVec : Tryd.prog.underlying 27 = some (.slice (Tryd.prog.elem 27)) := by kernel_rfl
theorem Tryd.sizeVec (w : World) : (sizeOf (Tryd.prog.elem 27)).run Tryd.prog w = .ok 2 w := by rfl
theorem VS.one {w : World} {a : Option Addr} {n cap : Nat} {ps : List Pt} (h : VS w (.slice a n cap) ps) {k : Nat} (hk : k < ps.length) :
    ∃ a1 c1, (∀ W : World, (Instr.slice 27 (.slice a n cap) (some (.int .i64 (k : Int))) (some (.int .i64 ((k : Int) + 1))) none).run Tryd.prog W = .ok (.slice a1 1 c1) W) ∧ VS w (.slice a1 1 c1) [ps[k]] := by
  obtain ⟨a0, cap0, e, hm, hc⟩ := h.split
  injection e with e1 e2 e3
  subst e1 e2 e3
  obtain ⟨b, off, lv, rfl, k0, k1, hs⟩ := hc k hk
  refine ⟨some ⟨b, off + k * 2, none⟩, cap - k, fun W => ?_, ?_⟩
  · rw [run_slice_lh W 27 (some ⟨b, off, none⟩) ps.length cap Tryd.elemVec .i64 .i64 k ((k : Int) + 1) (by omega) (by omega) (by omega), Tryd.sizeVec]
    have e1 : ((k : Int) + 1).toNat = k + 1 := by omega
    simp only [Result.andThen, sliced, Int.toNat_natCast, e1]
    rw [if_neg (by omega), show k + 1 - k = 1 by omega]
    simp [Addr.add_lit]
  · refine ⟨[(lv, ps[k].2)], ⟨_, _, rfl, ⟨by simp; omega, by omega⟩, (fun e => by cases e), fun _ => ⟨b, off + k * 2, rfl, fun j u hu => ?_⟩⟩, rfl, fun i hi hi2 => ?_⟩
    · match j, hu with
      | 0, hu => simp [penc] at hu; subst hu; exact k0
      | 1, hu => simp [penc] at hu; subst hu; exact k1
    · have : i = 0 := by simp at hi; omega
      subst this
      exact ⟨hs, rfl⟩
end Go.Proofs.YtogjcaakfnfapaaDoor
namespace Go.Proofs.YtogjcaakfnfapaaDoor
open Go Go.RowKit
set_option linter.unusedVariables false
set_option linter.unusedSimpArgs false
set_option maxRecDepth 100000
noncomputable def hasP (ps : List Pt) (p : Pt) : Bool := ps.any fun q => vsameL [q] [p]
theorem hasP_drop {ps : List Pt} {p : Pt} {k : Nat} (h : k < ps.length) : hasP (ps.drop k) p = (vsameL [ps[k]] [p] || hasP (ps.drop (k + 1)) p) := by
  rw [List.drop_eq_getElem_cons h]; rfl
theorem one_lit (w : World) (lv : Value) (l : List Lb) (x : Nat) (hl : Sl lenc w lv l) : VS (w.alloc (.cells #[lv, .float .f64 x] 42)) (.slice (some ⟨w.heap.size, 0, none⟩) 1 1) [(l, x)] :=
  vs_of (zs := [(lv, l, x)]) (Sl.lit (heap_new _ _) rfl rfl (by decide)) (fun z hz => by
    rw [List.mem_singleton.1 hz]
    exact hl.below ((Below.refl _ _).alloc (Nat.le_refl _) _) (Nat.le_refl _))
set_option maxHeartbeats 4000000 in
theorem has_any (v lv : Value) (ps : List Pt) (l : List Lb) (x : Nat) (w : World) (h : VS w v ps) (hl : Sl lenc w lv l) :
    Calls Tryd.prog 26 #[v, .agg #[lv, .float .f64 x]] w fun e w' => e = .returned (.bool (hasP ps (l, x))) ∧ Below w.heap.size w w' := by
  have HVS := Lib.hid h
  have HSL := Lib.hid hl
  obtain ⟨a, cap, rfl, hlen, -⟩ := h.split
  obtain ⟨al, cl, rfl, -, -⟩ := id hl
  obtain ⟨nl, hnl⟩ : ∃ n, n = l.length := ⟨_, rfl⟩
  rw [← hnl] at HSL ⊢
  have HONE := Lib.hid (fun (k : Nat) (hk : k < ps.length) => HVS.out.one hk)
  clear h hl hnl
  obtain ⟨N, hN⟩ : ∃ N, N = ps.length := ⟨_, rfl⟩
  rw [← hN] at hlen HVS ⊢
  have HN := Lib.hid hN
  clear hN
  obtain ⟨w0, hw0⟩ : ∃ w0, w0 = w.alloc (.cells #[.slice al nl cl, .float .f64 x] 42) := ⟨_, rfl⟩
  have hb0 : Below w.heap.size w w0 := by rw [hw0]; exact (Below.refl _ _).alloc (Nat.le_refl _) _
  obtain ⟨bg, hbg⟩ : ∃ b, b = w.heap.size := ⟨_, rfl⟩
  have g0 : w0.cell? ⟨bg, 0, none⟩ = some (.slice al nl cl) := by rw [hw0, hbg]; simp
  have g1 : w0.cell? ⟨bg, 1, none⟩ = some (.float .f64 x) := by rw [hw0, hbg]; simp
  have HW0 := Lib.hid hw0
  have HB0 := Lib.hid hb0
  have HBG := Lib.hid hbg
  have G0 := Lib.hid g0
  have G1 := Lib.hid g1
  clear hw0 hb0 hbg g0 g1
  go_enter Tryd.func26, Tryd.ntmps26
  go_wp2_with fail
  rw [← HW0.out, ← HBG.out]
  go_loopw [5] (fun i wr => ∃ k : Nat, k ≤ N ∧ i = .int .i64 k ∧ Hid (hasP (ps.drop k) (l, x) = hasP ps (l, x)) ∧ Hid (Below w0.heap.size w0 wr)) (fun i _ => N - (intOf i).toNat)
  case atStart => exact ⟨0, Nat.zero_le _, rfl, rfl, Below.refl _ _⟩
  case round =>
    obtain ⟨k, hk, rfl, HV, HB⟩ := hrel
    have h00 : (0 : Int) ≤ (k : Int) := by omega
    have hBz := HB.out.size
    by_cases hlt : k < N
    · have hltz : (k : Int) < (N : Int) := by omega
      have hkp : k < ps.length := by have := HN.out; omega
      have g0 := cell_below HB.out (Nat.le_refl _) G0.out
      have g1 := cell_below HB.out (Nat.le_refl _) G1.out
      obtain ⟨a4, c4, E4, hv4⟩ := HONE.out k hkp
      rw [← HN.out] at E4
      have hbw : Below w.heap.size w wr := HB0.out.trans (HB.out.mono HB0.out.size)
      have HCS := Lib.hid (fun (v2 : Value) w' (hb : Below wr.heap.size wr w') (h2 : VS w' v2 [(l, x)]) => csame_any (.slice a4 1 c4) v2 [ps[k]] [(l, x)] w' (hv4.below (hbw.trans (hb.mono hbw.size)) (Nat.le_refl _)) h2)
      have HSB := Lib.hid (fun w' (hb : Below wr.heap.size wr w') => HSL.out.below (hbw.trans (hb.mono hbw.size)) (Nat.le_refl _))
      obtain ⟨r, hr⟩ : ∃ r, r = vsameL [ps[k]] [(l, x)] := ⟨_, rfl⟩
      rw [← hr] at HCS
      have HD := Lib.hid (show hasP (ps.drop k) (l, x) = (r || hasP (ps.drop (k + 1)) (l, x)) by rw [hr]; exact hasP_drop hkp)
      have hw4 : IntKind.i64.wrap ((k : Int) + 1) = (k : Int) + 1 := by rw [IntKind.wrap_i64] <;> omega
      have h04 : (k : Int) + 1 ≤ (cap : Int) := by omega
      clear hr hv4 hbw
      go_wp2_with fail
      have hbA : Below wr.heap.size wr wr := Below.refl _ _
      go_region_held3 (fun w' => w'.cell? ⟨bg, 0, none⟩ = some (.slice al nl cl) ∧ w'.cell? ⟨bg, 1, none⟩ = some (.float .f64 x))
        (exact ⟨cell_below (B := wr.heap.size) (by go_grown) (Nat.le_refl _) g0, cell_below (B := wr.heap.size) (by go_grown) (Nat.le_refl _) g1⟩)
        ((go_at_call 45
          refine (HCS.out _ _ (by go_grown) ((one_lit wr (.slice al nl cl) l x (HSB.out _ (Below.refl _ _))).below (by go_grown) (Nat.le_refl _))).mono ?_
          rintro e w9 ⟨rfl, hb9⟩
          have hbA : Below wr.heap.size wr w9 := Below.trans (by go_grown) (hb9.mono (by first | exact Nat.le_refl _ | (simp; done) | (simp; omega)))))
      have HBA := Lib.hid hbA
      clear hbA hb9
      cases r with
      | true =>
        have HF := Lib.hid (show hasP ps (l, x) = true by rw [← HV.out, HD.out]; rfl)
        go_wp2_with fail
        go_ret
        exact ⟨by rw [HF.out] <;> rfl, HB0.out.trans ((HB.out.trans (HBA.out.mono hBz)).mono HB0.out.size)⟩
      | false =>
        go_wp2_with fail
        go_roundw
        case rel => exact ⟨k + 1, by omega, by go_num, by show _ = _; rw [← HV.out, HD.out]; rfl, HB.out.trans (HBA.out.mono hBz)⟩
        case measure => simp [intOf]; omega
    · have hltz : ¬ (k : Int) < (N : Int) := by omega
      have HF := Lib.hid (show hasP ps (l, x) = false by rw [← HV.out, List.drop_eq_nil_of_le (by have := HN.out; omega)]; rfl)
      go_wp2_with fail
      go_ret
      exact ⟨by rw [HF.out] <;> rfl, HB0.out.trans (HB.out.mono HB0.out.size)⟩
end Go.Proofs.YtogjcaakfnfapaaDoor
namespace Go.Proofs.YtogjcaakfnfapaaDoor
open Go Go.RowKit Go.Sort
set_option linter.unusedVariables false
set_option linter.unusedSimpArgs false
theorem vright_parts {ps : List Pt} (h : vrightL ps = true) : Strict ps ∧ ∀ p ∈ ps, rightL p.1 = true := by
  have hv : VRight ps := by
    unfold vrightL at h
    exact @of_decide_eq_true _ (Classical.propDecidable _) h
  refine ⟨?_, fun p hp => ?_⟩
  · have hadj : ∀ k (h0 : k + 1 < ps.length), cmpL ps[k].1 ps[k + 1].1 < 0 := fun k h0 => (hv (k + 1) h0).2 (by omega)
    unfold Strict
    rw [List.pairwise_iff_getElem]
    intro i j hi hj hij
    induction j with
    | zero => omega
    | succ j ih =>
      by_cases hj2 : i = j
      · subst hj2; exact hadj i hj
      · have h1 := ih (by omega) (by omega)
        exact (cmpL_trans _ _ _ (by omega) (by have := hadj j hj; omega)).2 (.inl h1)
  · obtain ⟨k, hk, rfl⟩ := List.mem_iff_getElem.1 hp
    exact (hv k hk).1
/-- An answer of Normal to points that can be put in order. -/
theorem nr_of {l t : List Pt} {e : Ending} {w : World} (hr : ∀ p ∈ l, rightL p.1 = true) (ht : Strict t) (hp : t.Perm (l.map canonP)) (h : NR l e w) : ∃ v, e = .returned (.tuple #[v, .int .i64 0]) ∧ VS w v t := by
  rcases h with ⟨⟨p, hpp, h1⟩, -⟩ | ⟨-, h1, -⟩ | ⟨-, q, v', h1, h2, h3, h4⟩
  · rw [hr p hpp] at h1; cases h1
  · exact absurd ht (h1 _ hp)
  · have : q = t := strictp_unique (h1.trans hp.symm) h2 ht
    subst this
    exact ⟨v', h3, h4⟩
theorem fo_fenc (x o : Int) (hx : x.natAbs < 2 ^ 53) (ho : o.natAbs < 2 ^ 53) : fo (fenc x) (fenc o) = some (compare x o) := by
  have := order_units (fenc_val x hx) (fenc_val o ho)
  rw [sgn_fenc, sgn_fenc] at this
  have hT : (0 : Int) < (TU : Int) := by have := TU_pos; omega
  show Ieee.double.order (fenc x) (fenc o) = _
  rw [this]
  have lt : x * (TU : Int) < o * (TU : Int) ↔ x < o := Int.mul_lt_mul_right hT
  have eq : x * (TU : Int) = o * (TU : Int) ↔ x = o := Int.mul_eq_mul_right_iff (by omega)
  congr 1
  simp only [compare, compareOfLessAndEq, lt, eq]
theorem cntP_fenc (k n : Nat) (hk : k ≤ 1000) (hn : n ≤ 1000) : cntP (fenc (k : Int)) n = decide (n + 1 ≤ k) := by
  unfold cntP leF
  rw [fo_fenc _ _ (by omega) (by omega), Bool.eq_iff_iff]
  have hcmp : compare ((n : Int) + 1) (k : Int) = if (n : Int) + 1 < k then .lt else if (n : Int) + 1 = k then .eq else .gt := rfl
  rw [hcmp]
  by_cases h1 : (n : Int) + 1 < k
  · simp [h1]; omega
  · by_cases h2 : (n : Int) + 1 = k
    · simp [h1, h2]; omega
    · simp [h1, h2]; omega
theorem cntN_fenc (k len : Nat) (hk : k ≤ 1000) (hl : len ≤ 1000) : cntN (fenc (k : Int)) len = min k len :=
  cntN_of (fun j hj => by rw [cntP_fenc k j hk (by omega)]; exact decide_eq_true (by omega)) (by omega) (fun h => by rw [cntP_fenc k _ hk (by omega)]; exact decide_eq_false (by omega))
theorem firsts_all {β : Type} (gl : β → List Lb) (zs : List β) (h : ∀ z, gl z = []) (hne : zs ≠ []) : firstsG gl zs = [[]] := by
  have : ∀ zs : List β, firstsG gl zs = if zs = [] then [] else [[]] := by
    refine take_ind ?_ ?_
    · rfl
    · intro l z ih
      rw [firsts_snoc, ih, h z]
      by_cases e : l = []
      · subst e; simp
      · simp [e]
  rw [this, if_neg hne]
def topP (op : Int) (n : Nat) (ps : List Pt) : List Pt := (stabF (aheadP op) ps).take n
theorem agg_all (op : Int) (k : Nat) (ps : List Pt) (h : takesB op = true) : aggP op 0 [] k ps = topP op (cntN k ps.length) ps := by
  have hg : ∀ p, glP 0 [] p = [] := fun p => rfl
  by_cases he : ps = []
  · subst he; rfl
  · unfold aggP topP
    rw [firsts_all _ _ hg he, List.flatMap_cons, List.flatMap_nil, List.append_nil, outP, if_pos h]
    have : membG (glP 0 []) ps [] = ps := List.filter_eq_self.2 fun p _ => decide_eq_true (hg p)
    rw [this]
theorem top_sub {op : Int} {n : Nat} {ps : List Pt} : ∀ p ∈ topP op n ps, p ∈ ps := fun p hp => (stab_perm _ _).subset (List.mem_of_mem_take hp)
theorem top_len {op : Int} {n : Nat} {ps : List Pt} : (topP op n ps).length = min n ps.length := by
  unfold topP; rw [List.length_take, (stab_perm _ _).length_eq]
theorem strict_pts_nodup {ps : List Pt} (h : Strict ps) : ps.Nodup := (List.pairwise_map.1 (strict_nodup h)).imp fun hab e => hab (by rw [e])
theorem top_nodup {op : Int} {n : Nat} {ps : List Pt} (h : Strict ps) : (topP op n ps).Nodup := by
  have h1 : (stabF (aheadP op) ps).Nodup := (stab_perm _ _).nodup_iff.2 (strict_pts_nodup h)
  exact h1.sublist (List.take_sublist _ _)
/-- The chosen points, in the vector's order. -/
noncomputable def topS (op : Int) (n : Nat) (ps : List Pt) : List Pt := ps.filter fun p => @decide (p ∈ topP op n ps) (Classical.propDecidable _)
theorem mem_topS {op : Int} {n : Nat} {ps : List Pt} {p : Pt} : p ∈ topS op n ps ↔ p ∈ topP op n ps := by
  unfold topS
  rw [List.mem_filter]
  constructor
  · rintro ⟨-, h⟩; exact @of_decide_eq_true _ (Classical.propDecidable _) h
  · intro h; exact ⟨top_sub p h, @decide_eq_true _ (Classical.propDecidable _) h⟩
theorem topS_strict {op : Int} {n : Nat} {ps : List Pt} (h : Strict ps) : Strict (topS op n ps) := List.Pairwise.filter _ h
theorem canon_strict {ps : List Pt} (h : Strict ps) : Strict (ps.map canonP) := by
  unfold Strict; rw [List.pairwise_map]; exact h
theorem topS_perm {op : Int} {n : Nat} {ps : List Pt} (h : Strict ps) : (topS op n ps).Perm (topP op n ps) :=
  (List.perm_ext_iff_of_nodup (strict_pts_nodup (topS_strict h)) (top_nodup h)).2 fun p => mem_topS
theorem nr_top {op : Int} {n : Nat} {ps : List Pt} {e : Ending} {w : World} (hs : Strict ps) (hr : ∀ p ∈ ps, rightL p.1 = true) (h : NR (topP op n ps) e w) : ∃ v, e = .returned (.tuple #[v, .int .i64 0]) ∧ VS w v ((topS op n ps).map canonP) :=
  nr_of (fun p hp => hr p (top_sub p hp)) (canon_strict (topS_strict hs)) ((topS_perm hs).map _) h
theorem aggr_top {op : Int} {k : Nat} {ps : List Pt} {e : Ending} {w : World} (h6 : op = 6 ∨ op = 7) (hs : Strict ps) (hr : ∀ p ∈ ps, rightL p.1 = true) (h : AggR op 0 [] k ps e w) : ∃ v, e = .returned (.tuple #[v, .int .i64 0]) ∧ VS w v ((topS op (cntN k ps.length) ps).map canonP) := by
  rcases h with ⟨h1 | h1, -⟩ | ⟨-, -, h3⟩
  · rcases h6 with rfl | rfl <;> exact absurd h1 (by decide)
  · exact absurd (show chkL 0 [] = 0 by decide +kernel) h1
  · rw [agg_all op k ps (by rcases h6 with rfl | rfl <;> rfl)] at h3
    exact nr_top hs hr h3
theorem topS_len {op : Int} {n : Nat} {ps : List Pt} (h : Strict ps) : ((topS op n ps).map canonP).length = min n ps.length := by
  rw [List.length_map, (topS_perm h).length_eq, top_len]
theorem same_point {ps : List Pt} (h : Strict ps) {s p : Pt} (hs : s ∈ ps) (hp : p ∈ ps) (e : s.1 = p.1) : s = p := by
  obtain ⟨i, hi, rfl⟩ := List.mem_iff_getElem.1 hs
  obtain ⟨j, hj, rfl⟩ := List.mem_iff_getElem.1 hp
  have h1 := List.pairwise_iff_getElem.1 h
  rcases Nat.lt_trichotomy i j with c | c | c
  · have := h1 i j hi hj c; rw [e, cmpL_refl] at this; omega
  · subst c; rfl
  · have := h1 j i hj hi c; rw [e, cmpL_refl] at this; omega
/-- A point of the vector is among the chosen ones just if it is one. -/
theorem has_top {op : Int} {n : Nat} {ps : List Pt} (h : Strict ps) {p : Pt} (hp : p ∈ ps) : hasP ((topS op n ps).map canonP) p = @decide (p ∈ topP op n ps) (Classical.propDecidable _) := by
  rw [Bool.eq_iff_iff]
  unfold hasP
  rw [List.any_eq_true]
  constructor
  · rintro ⟨q, hq, hs⟩
    obtain ⟨s, hs1, rfl⟩ := List.mem_map.1 hq
    have h1 : cmpL s.1 p.1 = 0 := ((@of_decide_eq_true _ (Classical.propDecidable _) hs : VSame [canonP s] [p]).2 0 (by simp) (by simp)).1
    have h2 : s = p := by
      have hs2 : s ∈ ps := top_sub s (mem_topS.1 hs1)
      exact same_point h hs2 hp ((cmpL_eq _ _).1 h1)
    subst h2
    exact @decide_eq_true _ (Classical.propDecidable _) (mem_topS.1 hs1)
  · intro hd
    have h1 := @of_decide_eq_true _ (Classical.propDecidable _) hd
    refine ⟨canonP p, List.mem_map_of_mem (mem_topS.2 h1), vsame_yes ⟨rfl, fun k hk hk2 => ?_⟩⟩
    have : k = 0 := by simp at hk; omega
    subst this
    refine ⟨cmpL_refl _, ?_⟩
    show fsame (canon p.2) p.2 = true
    unfold fsame; rw [canon_canon]; simp
theorem before_canon_l (a b : Nat) : beforeF (canon a) b = beforeF a b := by
  cases h : fnan a with
  | false => rw [canon_num h]
  | true =>
    rw [canon_nan h, before_key, before_key]
    have h1 := fcls_nan h
    have h2 := fcls_nan CN_nan
    have z1 : fz a = 0 := by unfold fz zer; rw [fo_nan_l 0 h]; rfl
    have z2 : fz CN = 0 := by unfold fz zer; rw [fo_nan_l 0 CN_nan]; rfl
    rw [h1.1, h1.2, h2.1, h2.2, z1, z2]
theorem stab_pairs (op : Int) (ps : List Pt) : (stabF (aheadP op) ps).Pairwise fun a b => aheadP op b a = false := by
  have hS : SWO (aheadP op) := by
    have h := keylt_swo (fun z : Pt => akey op z.2)
    have e : aheadP op = fun x y => keylt (akey op x.2) (akey op y.2) := by
      funext x y; exact ahead_key op _ _
    rw [e]; exact h
  have h := stab_sorted hS ps
  have e : (stabF (fun a b : Pt × Nat => aheadP op a.1 b.1) ps.zipIdx).map Prod.fst = stabF (aheadP op) ps := by rw [stab_map Prod.fst (aheadP op), List.zipIdx_map_fst]
  rw [← e, List.pairwise_map]
  refine h.imp ?_
  intro a b hab
  unfold lexI at hab
  rw [Bool.or_eq_false_iff] at hab
  exact hab.1
/-- None that topk leaves out comes behind one that it has. -/
theorem top_ahead {n : Nat} {ps : List Pt} {p q : Pt} (hp : p ∈ ps) (hn : p ∉ topP 6 n ps) (hq : q ∈ (topS 6 n ps).map canonP) : beforeF q.2 p.2 = false := by
  obtain ⟨s, hs, rfl⟩ := List.mem_map.1 hq
  show beforeF (canon s.2) p.2 = false
  rw [before_canon_l]
  have hsT := mem_topS.1 hs
  have hpL : p ∈ stabF (aheadP 6) ps := (stab_perm _ _).symm.subset hp
  obtain ⟨i, hi, e1⟩ := List.mem_iff_getElem.1 hsT
  obtain ⟨j, hj, e2⟩ := List.mem_iff_getElem.1 hpL
  unfold topP at hi e1
  rw [List.length_take] at hi
  rw [List.getElem_take] at e1
  have hij : i < j := by
    rcases Nat.lt_or_ge j n with h | h
    · exfalso
      apply hn
      unfold topP
      rw [← e2]
      exact List.mem_take_iff_getElem.2 ⟨j, by omega, rfl⟩
    · omega
  have := List.pairwise_iff_getElem.1 (stab_pairs 6 ps) i j (by omega) hj hij
  rw [e1, e2] at this
  exact this
theorem top_more {n m : Nat} {ps : List Pt} {p : Pt} (h : n ≤ m) (hp : p ∈ topP 6 n ps) : p ∈ topP 6 m ps := by
  unfold topP at *
  exact (List.take_sublist_take_left h).subset hp
end Go.Proofs.YtogjcaakfnfapaaDoor
namespace Go.Proofs.YtogjcaakfnfapaaDoor
open Go Go.RowKit
set_option linter.unusedVariables false
set_option linter.unusedSimpArgs false
set_option maxRecDepth 100000
theorem fb_canon {b : Nat} (h : FB b) : FB (canon b) := by
  unfold canon
  split
  · show CN < _; decide
  · exact h
set_option maxHeartbeats 16000000 in
theorem aggRanks_walk (v : Value) (ps : List Pt) (k : Int) (w : World) (ht : Tab w) (hv : VS w v ps ∧ ∀ p ∈ ps, (Lit.float .f64 p.2).wf = true) (hk : (Lit.int .i64 k).wf = true) :
    Calls Tryd.prog 6 #[v, .int .i64 k] w fun e w' => e = .returned (.bool true) ∧ Below w.heap.size w w' := by
  obtain ⟨hvs, hwf⟩ := hv
  have hkb := i64_in hk
  have HVS := Lib.hid hvs
  have HT := Lib.hid ht
  have HWF := Lib.hid hwf
  obtain ⟨av, cv, rfl, hlv, hcv⟩ := hvs.split
  have HCV := Lib.hid hcv
  obtain ⟨N, hN⟩ : ∃ n, n = ps.length := ⟨_, rfl⟩
  rw [← hN] at HVS hlv ⊢
  have HN := Lib.hid hN
  have HK := Lib.hid (known_any w ht)
  have HRT := Lib.hid (fun w' (hb : Below w.heap.size w w') => lright_any _ ps w' (HVS.out.below hb (Nat.le_refl _)))
  obtain ⟨rr, hrr⟩ : ∃ r, r = (vfewL ps && vrightL ps) := ⟨_, rfl⟩
  rw [← hrr] at HRT
  have HRR := Lib.hid hrr
  clear ht hk hvs hwf hcv hN hrr
  cases rr with
  | false =>
    go_enter Tryd.func6, Tryd.ntmps6
    go_wp2_with fail
    refine HK.out.mono ?_
    rintro e w1 ⟨rfl, hb1⟩
    have HB1 := Lib.hid hb1
    clear hb1
    go_wp2_with fail
    refine (HRT.out _ HB1.out).mono ?_
    rintro e w2 ⟨rfl, n2, rfl⟩
    go_wp2_with fail
    go_ret
    exact ⟨rfl, below_drewN HB1.out n2⟩
  | true =>
    by_cases hk0 : k < 0
    · have hkb0 : decide (k < 0) = true := decide_eq_true hk0
      go_enter Tryd.func6, Tryd.ntmps6
      go_wp2_with fail
      refine HK.out.mono ?_
      rintro e w1 ⟨rfl, hb1⟩
      have HB1 := Lib.hid hb1
      clear hb1
      go_wp2_with fail
      refine (HRT.out _ HB1.out).mono ?_
      rintro e w2 ⟨rfl, n2, rfl⟩
      go_wp2_with fail
      go_ret
      exact ⟨rfl, below_drewN HB1.out n2⟩
    · have hkb0 : decide (k < 0) = false := decide_eq_false hk0
      by_cases hk1 : 100 < k
      · have hkb1 : decide (100 < k) = true := decide_eq_true hk1
        go_enter Tryd.func6, Tryd.ntmps6
        go_wp2_with fail
        refine HK.out.mono ?_
        rintro e w1 ⟨rfl, hb1⟩
        have HB1 := Lib.hid hb1
        clear hb1
        go_wp2_with fail
        refine (HRT.out _ HB1.out).mono ?_
        rintro e w2 ⟨rfl, n2, rfl⟩
        go_wp2_with fail
        go_ret
        exact ⟨rfl, below_drewN HB1.out n2⟩
      · obtain ⟨K, rfl⟩ : ∃ K : Nat, k = K := ⟨k.toNat, by omega⟩
        have hrt : vfewL ps = true ∧ vrightL ps = true := by have := HRR.out.symm; rwa [Bool.and_eq_true] at this
        obtain ⟨hok, hl3⟩ := few_ok hrt.1 HWF.out
        obtain ⟨hst, hri⟩ := vright_parts hrt.2
        have hK1 : K ≤ 100 := by omega
        have hN3 : N ≤ 300 := by have := HN.out; omega
        have hkz : (0 : Int) ≤ (K : Int) := by omega
        have hkz1 : (K : Int) ≤ 100 := by omega
        have hkb0 : decide ((K : Int) < 0) = false := decide_eq_false (by omega)
        have hkb1 : decide (100 < (K : Int)) = false := decide_eq_false (by omega)
        have HA := Lib.hid (fun (o : Int) (x : Nat) w' (hb : Below w.heap.size w w') => agg_go o 0 x (.slice none 0 0) _ [] ps w' (HVS.out.below hb (Nat.le_refl _)) (Sl.nil _) (fun s hs => by cases hs) hok hl3 (HT.out.below hb (Nat.le_refl _)))
        have HST := Lib.hid hst
        have HRI := Lib.hid hri
        have HFB := Lib.hid (fun p (hp : p ∈ ps) => (hok p hp).2.2)
        clear hk0 hk1 hrt hok hst hri
        by_cases hKN : N < K
        · have hKNz : (N : Int) < (K : Int) := by omega
          have hX : N = min K N := by omega
          have HX := Lib.hid hX
          clear hX
          go_enter Tryd.func6, Tryd.ntmps6
          go_wp2_with fail
          refine HK.out.mono ?_
          rintro e w1 ⟨rfl, hb1⟩
          have HB1 := Lib.hid hb1
          clear hb1
          go_wp2_with fail
          refine (HRT.out _ HB1.out).mono ?_
          rintro e w2 ⟨rfl, n2, rfl⟩
          have hb2 := below_drewN HB1.out n2
          generalize w1.drewN n2 = w2 at hb2 ⊢
          have HB2 := Lib.hid hb2
          clear hb2
          go_wp2_with fail
          rw [show floatOfInt .f64 (K : Int) = fenc K from rfl]
          refine (HA.out 6 (fenc K) _ HB2.out).mono ?_
          rintro e w3 ⟨hb3, hr3⟩
          obtain ⟨v3, rfl, hv3⟩ := aggr_top (.inl rfl) HST.out HRI.out hr3
          rw [cntN_fenc K ps.length (by omega) (by have := HN.out; omega)] at hv3
          have hl3 := topS_len (op := 6) (n := min K ps.length) HST.out
          rw [show min (min K ps.length) ps.length = N by have := HN.out; have := HX.out; omega] at hl3
          obtain ⟨qt, hqt⟩ : ∃ q, q = (topS 6 (min K ps.length) ps).map canonP := ⟨_, rfl⟩
          rw [← hqt] at hv3 hl3
          have HQT := Lib.hid hqt
          have HV3 := Lib.hid hv3
          obtain ⟨a3, c3, rfl, hc3, hcc3⟩ := hv3.split
          have HLT := Lib.hid hl3
          rw [hl3] at HV3 hc3 ⊢
          have HCT := Lib.hid hcc3
          have HB3 := Lib.hid (HB2.out.trans (hb3.mono HB2.out.size))
          clear hb3 hr3 hv3 hl3 hqt hcc3
          go_wp2_with fail
          rw [show floatOfInt .f64 (K : Int) = fenc K from rfl]
          refine (HA.out 7 (fenc K) _ HB3.out).mono ?_
          rintro e w4 ⟨hb4, hr4⟩
          obtain ⟨v4, rfl, hv4⟩ := aggr_top (.inr rfl) HST.out HRI.out hr4
          rw [cntN_fenc K ps.length (by omega) (by have := HN.out; omega)] at hv4
          have hl4 := topS_len (op := 7) (n := min K ps.length) HST.out
          rw [show min (min K ps.length) ps.length = N by have := HN.out; have := HX.out; omega] at hl4
          obtain ⟨qb, hqb⟩ : ∃ q, q = (topS 7 (min K ps.length) ps).map canonP := ⟨_, rfl⟩
          rw [← hqb] at hv4 hl4
          obtain ⟨a4, c4, rfl, hc4, -⟩ := hv4.split
          rw [hl4] at hc4 ⊢
          have HB4 := Lib.hid (HB3.out.trans (hb4.mono HB3.out.size))
          have HV34 := Lib.hid (HV3.out.below hb4 (Nat.le_refl _))
          have HB34 := Lib.hid hb4
          clear hb4 hr4 hv4 hl4 hqb
          go_wp2_with fail
          rw [show floatOfInt .f64 ((K : Int) + 1) = fenc ((K : Int) + 1) from rfl]
          refine (HA.out 6 (fenc ((K : Int) + 1)) _ HB4.out).mono ?_
          rintro e w5 ⟨hb5, hr5⟩
          obtain ⟨v5, rfl, hv5⟩ := aggr_top (.inl rfl) HST.out HRI.out hr5
          rw [show ((K : Int) + 1) = ((K + 1 : Nat) : Int) by omega, cntN_fenc (K + 1) ps.length (by omega) (by have := HN.out; omega)] at hv5
          have hl5 := topS_len (op := 6) (n := min (K + 1) ps.length) HST.out
          obtain ⟨LU, hLU⟩ : ∃ L, L = min (min (K + 1) ps.length) ps.length := ⟨_, rfl⟩
          have hLX : N ≤ LU := by have := HN.out; have := HX.out; omega
          rw [← hLU] at hl5
          obtain ⟨qu, hqu⟩ : ∃ q, q = (topS 6 (min (K + 1) ps.length) ps).map canonP := ⟨_, rfl⟩
          rw [← hqu] at hv5 hl5
          have HQU := Lib.hid hqu
          have HV5 := Lib.hid hv5
          obtain ⟨a5, c5, rfl, hc5, -⟩ := hv5.split
          rw [hl5] at HV5 hc5 ⊢
          have HB5 := Lib.hid (HB4.out.trans (hb5.mono HB4.out.size))
          have HV35 := Lib.hid (HV34.out.below hb5 (Nat.le_refl _))
          have HB35 := Lib.hid (HB34.out.trans (hb5.mono HB34.out.size))
          have hxx : ((N : Int) != (N : Int)) = false := by simp
          have hLXz : ¬ (LU : Int) < (N : Int) := by omega
          have hLXb : decide ((LU : Int) < (N : Int)) = false := decide_eq_false hLXz
          have hLXn : decide (LU < N) = false := decide_eq_false (by omega)
          clear hb5 hr5 hv5 hl5 hqu hLU
          go_wp2_with fail
          go_loopw [12] (fun i wr => ∃ j : Nat, j ≤ N ∧ i = .int .i64 j ∧ Hid (Below w5.heap.size w5 wr)) (fun i _ => N - (intOf i).toNat)
          case atStart => exact ⟨0, Nat.zero_le _, rfl, Below.refl _ _⟩
          case round =>
            obtain ⟨j, hj, rfl, HB⟩ := hrel
            have h00 : (0 : Int) ≤ (j : Int) := by omega
            by_cases hlt : j < N
            · have hltz : (j : Int) < (N : Int) := by omega
              have hjp : j < ps.length := by have := HN.out; omega
              obtain ⟨b, off, lv, rfl, k0, k1, hsl⟩ := HCV.out j hjp
              have hbw : Below w.heap.size w wr := HB5.out.trans (HB.out.mono HB5.out.size)
              have p0 := cell_below hbw (Nat.le_refl _) k0
              have p1 := cell_below hbw (Nat.le_refl _) k1
              obtain ⟨al, cl, hlv2, -, -⟩ := id hsl
              obtain ⟨⟨l, x⟩, hpe⟩ : ∃ p : Pt, p = ps[j] := ⟨_, rfl⟩
              have hpm : (l, x) ∈ ps := by rw [hpe]; exact List.getElem_mem _
              rw [← hpe] at p1 hsl hlv2
              simp only at p1 hsl hlv2
              subst hlv2
              obtain ⟨nl, hnl⟩ : ∃ n, n = l.length := ⟨_, rfl⟩
              rw [← hnl] at p0 hsl
              have HSL := Lib.hid hsl
              have HBW := Lib.hid hbw
              have HH1 := Lib.hid (has_any _ (.slice al nl cl) qt l x wr (HV35.out.below HB.out (Nat.le_refl _)) (hsl.below hbw (Nat.le_refl _)))
              have HH2 := Lib.hid (fun w' (hb : Below wr.heap.size wr w') => has_any _ (.slice al nl cl) qu l x w' ((HV5.out.below HB.out (Nat.le_refl _)).below hb (Nat.le_refl _)) ((hsl.below hbw (Nat.le_refl _)).below hb (Nat.le_refl _)))
              have h1 := has_top (op := 6) (n := min K ps.length) HST.out hpm
              have h2 := has_top (op := 6) (n := min (K + 1) ps.length) HST.out hpm
              rw [← HQT.out] at h1
              rw [← HQU.out] at h2
              obtain ⟨bi, hbi⟩ : ∃ b, b = hasP qt (l, x) := ⟨_, rfl⟩
              rw [← hbi] at HH1 h1
              have HBI := Lib.hid h1
              have HB2I := Lib.hid h2
              have HPM := Lib.hid hpm
              clear k0 k1 hsl hbw hpe hpm hnl h1 h2 hbi
              cases bi with
              | true =>
                have hu : hasP qu (l, x) = true := by
                  rw [HB2I.out]
                  exact @decide_eq_true _ (Classical.propDecidable _) (top_more (by omega) (@of_decide_eq_true _ (Classical.propDecidable _) HBI.out.symm))
                rw [hu] at HH2
                clear hu
                go_wp2_with fail
                refine HH1.out.mono ?_
                rintro e w6 ⟨rfl, hb6⟩
                have p0 := cell_below hb6 (Nat.le_refl _) p0
                have p1 := cell_below hb6 (Nat.le_refl _) p1
                have HB6 := Lib.hid hb6
                clear hb6
                go_wp2_with fail
                refine (HH2.out _ HB6.out).mono ?_
                rintro e w7 ⟨rfl, hb7⟩
                have HB7 := Lib.hid (HB.out.trans ((HB6.out.trans (hb7.mono HB6.out.size)).mono HB.out.size))
                clear hb7
                go_wp2_with fail
                by_cases hz0 : 0 < N
                case' pos =>
                  have hzI : (0 : Int) < (N : Int) := by omega
                  have hzb : decide ((0 : Int) < (N : Int)) = true := decide_eq_true hzI
                  have hzn : decide (0 < N) = true := decide_eq_true hz0
                case' neg =>
                  have hzb : decide ((0 : Int) < (N : Int)) = false := decide_eq_false (by omega)
                  have hzn : decide (0 < N) = false := decide_eq_false hz0
                  clear hz0
                all_goals
                  go_loopw [14] (fun i wq => i = .int .i64 0 ∧ wq = w7) (fun _ _ => 0)
                  case atStart => exact ⟨rfl, rfl⟩
                  case round =>
                    obtain ⟨rfl, rfl⟩ := hrel
                    go_wp2_with fail
                    go_roundw
                    case rel => first | exact ⟨j + 1, by omega, by go_num, HB7.out⟩ | exact ⟨j + 1, by omega, by omega⟩
                    case measure => simp [intOf]; omega
              | false =>
                have hnt : (l, x) ∉ topP 6 (min K ps.length) ps := @of_decide_eq_false _ (Classical.propDecidable _) HBI.out.symm
                have HNT := Lib.hid hnt
                clear hnt
                go_wp2_with fail
                refine HH1.out.mono ?_
                rintro e w6 ⟨rfl, hb6⟩
                have p1 := cell_below hb6 (Nat.le_refl _) p1
                have HB6 := Lib.hid (HB.out.trans (hb6.mono HB.out.size))
                clear hb6
                go_wp2_with fail
                obtain ⟨W, hW⟩ : ∃ W, W = w6 := ⟨_, rfl⟩
                rw [← hW] at p1 HB6 ⊢
                clear hW
                go_loopw [14] (fun i wq => ∃ (m n : Nat), m ≤ N ∧ i = .int .i64 m ∧ wq = W.drewN n) (fun i _ => N - (intOf i).toNat)
                case atStart => exact ⟨0, 0, Nat.zero_le _, rfl, rfl⟩
                case round =>
                  obtain ⟨m, n, hm, rfl, rfl⟩ := hrel
                  have h02 : (0 : Int) ≤ (m : Int) := by omega
                  by_cases hlt2 : m < N
                  · have hltz2 : (m : Int) < (N : Int) := by omega
                    have hmq : m < qt.length := by have := HLT.out; omega
                    obtain ⟨b3, off3, lv3, rfl, -, k3, -⟩ := HCT.out m hmq
                    have q3 := cell_below HB6.out (Nat.le_refl _) (cell_below HB35.out (Nat.le_refl _) k3)
                    obtain ⟨y, hy⟩ : ∃ y, y = qt[m].2 := ⟨_, rfl⟩
                    rw [← hy] at q3
                    have hmem : qt[m] ∈ qt := List.getElem_mem hmq
                    generalize qt[m] = z at hmem hy
                    rw [HQT.out] at hmem
                    have hbf : beforeF y x = false := by
                      rw [hy]
                      exact top_ahead (p := (l, x)) HPM.out HNT.out hmem
                    have hfy : FB y := by
                      rw [hy]
                      obtain ⟨s, hs, rfl⟩ := List.mem_map.1 hmem
                      exact fb_canon (HFB.out s (top_sub s (mem_topS.1 hs)))
                    have HBF := Lib.hid (fun w => before_any y x w hfy (HFB.out _ HPM.out))
                    rw [hbf] at HBF
                    clear k3 hy hbf hfy hmem
                    go_wp2_with fail
                    go_quiet ((go_at_call 27; first | refine qs (HBF.out _) | refine quiet_same (HBF.out _)))
                    go_wp2_with fail
                    go_roundw
                    case rel => exact ⟨m + 1, _, by omega, by go_num, by first | rfl | (simp only [World.drewN_drewN]; done) | exact World.drewN_drewN _ _ _⟩
                    case measure => simp [intOf]; omega
                  · have hltz2 : ¬ (m : Int) < (N : Int) := by omega
                    go_wp2_with fail
                    go_roundw
                    case rel => exact ⟨j + 1, by omega, by go_num, below_drewN HB6.out n⟩
                    case measure => simp [intOf]; omega
            · have hltz : ¬ (j : Int) < (N : Int) := by omega
              go_wp2_with fail
              go_ret
              exact ⟨rfl, HB5.out.trans (HB.out.mono HB5.out.size)⟩
        · have hKNz : ¬ (N : Int) < (K : Int) := by omega
          have hX : K = min K N := by omega
          have HX := Lib.hid hX
          clear hX
          go_enter Tryd.func6, Tryd.ntmps6
          go_wp2_with fail
          refine HK.out.mono ?_
          rintro e w1 ⟨rfl, hb1⟩
          have HB1 := Lib.hid hb1
          clear hb1
          go_wp2_with fail
          refine (HRT.out _ HB1.out).mono ?_
          rintro e w2 ⟨rfl, n2, rfl⟩
          have hb2 := below_drewN HB1.out n2
          generalize w1.drewN n2 = w2 at hb2 ⊢
          have HB2 := Lib.hid hb2
          clear hb2
          go_wp2_with fail
          rw [show floatOfInt .f64 (K : Int) = fenc K from rfl]
          refine (HA.out 6 (fenc K) _ HB2.out).mono ?_
          rintro e w3 ⟨hb3, hr3⟩
          obtain ⟨v3, rfl, hv3⟩ := aggr_top (.inl rfl) HST.out HRI.out hr3
          rw [cntN_fenc K ps.length (by omega) (by have := HN.out; omega)] at hv3
          have hl3 := topS_len (op := 6) (n := min K ps.length) HST.out
          rw [show min (min K ps.length) ps.length = K by have := HN.out; have := HX.out; omega] at hl3
          obtain ⟨qt, hqt⟩ : ∃ q, q = (topS 6 (min K ps.length) ps).map canonP := ⟨_, rfl⟩
          rw [← hqt] at hv3 hl3
          have HQT := Lib.hid hqt
          have HV3 := Lib.hid hv3
          obtain ⟨a3, c3, rfl, hc3, hcc3⟩ := hv3.split
          have HLT := Lib.hid hl3
          rw [hl3] at HV3 hc3 ⊢
          have HCT := Lib.hid hcc3
          have HB3 := Lib.hid (HB2.out.trans (hb3.mono HB2.out.size))
          clear hb3 hr3 hv3 hl3 hqt hcc3
          go_wp2_with fail
          rw [show floatOfInt .f64 (K : Int) = fenc K from rfl]
          refine (HA.out 7 (fenc K) _ HB3.out).mono ?_
          rintro e w4 ⟨hb4, hr4⟩
          obtain ⟨v4, rfl, hv4⟩ := aggr_top (.inr rfl) HST.out HRI.out hr4
          rw [cntN_fenc K ps.length (by omega) (by have := HN.out; omega)] at hv4
          have hl4 := topS_len (op := 7) (n := min K ps.length) HST.out
          rw [show min (min K ps.length) ps.length = K by have := HN.out; have := HX.out; omega] at hl4
          obtain ⟨qb, hqb⟩ : ∃ q, q = (topS 7 (min K ps.length) ps).map canonP := ⟨_, rfl⟩
          rw [← hqb] at hv4 hl4
          obtain ⟨a4, c4, rfl, hc4, -⟩ := hv4.split
          rw [hl4] at hc4 ⊢
          have HB4 := Lib.hid (HB3.out.trans (hb4.mono HB3.out.size))
          have HV34 := Lib.hid (HV3.out.below hb4 (Nat.le_refl _))
          have HB34 := Lib.hid hb4
          clear hb4 hr4 hv4 hl4 hqb
          go_wp2_with fail
          rw [show floatOfInt .f64 ((K : Int) + 1) = fenc ((K : Int) + 1) from rfl]
          refine (HA.out 6 (fenc ((K : Int) + 1)) _ HB4.out).mono ?_
          rintro e w5 ⟨hb5, hr5⟩
          obtain ⟨v5, rfl, hv5⟩ := aggr_top (.inl rfl) HST.out HRI.out hr5
          rw [show ((K : Int) + 1) = ((K + 1 : Nat) : Int) by omega, cntN_fenc (K + 1) ps.length (by omega) (by have := HN.out; omega)] at hv5
          have hl5 := topS_len (op := 6) (n := min (K + 1) ps.length) HST.out
          obtain ⟨LU, hLU⟩ : ∃ L, L = min (min (K + 1) ps.length) ps.length := ⟨_, rfl⟩
          have hLX : K ≤ LU := by have := HN.out; have := HX.out; omega
          rw [← hLU] at hl5
          obtain ⟨qu, hqu⟩ : ∃ q, q = (topS 6 (min (K + 1) ps.length) ps).map canonP := ⟨_, rfl⟩
          rw [← hqu] at hv5 hl5
          have HQU := Lib.hid hqu
          have HV5 := Lib.hid hv5
          obtain ⟨a5, c5, rfl, hc5, -⟩ := hv5.split
          rw [hl5] at HV5 hc5 ⊢
          have HB5 := Lib.hid (HB4.out.trans (hb5.mono HB4.out.size))
          have HV35 := Lib.hid (HV34.out.below hb5 (Nat.le_refl _))
          have HB35 := Lib.hid (HB34.out.trans (hb5.mono HB34.out.size))
          have hxx : ((K : Int) != (K : Int)) = false := by simp
          have hLXz : ¬ (LU : Int) < (K : Int) := by omega
          have hLXb : decide ((LU : Int) < (K : Int)) = false := decide_eq_false hLXz
          have hLXn : decide (LU < K) = false := decide_eq_false (by omega)
          clear hb5 hr5 hv5 hl5 hqu hLU
          go_wp2_with fail
          go_loopw [12] (fun i wr => ∃ j : Nat, j ≤ N ∧ i = .int .i64 j ∧ Hid (Below w5.heap.size w5 wr)) (fun i _ => N - (intOf i).toNat)
          case atStart => exact ⟨0, Nat.zero_le _, rfl, Below.refl _ _⟩
          case round =>
            obtain ⟨j, hj, rfl, HB⟩ := hrel
            have h00 : (0 : Int) ≤ (j : Int) := by omega
            by_cases hlt : j < N
            · have hltz : (j : Int) < (N : Int) := by omega
              have hjp : j < ps.length := by have := HN.out; omega
              obtain ⟨b, off, lv, rfl, k0, k1, hsl⟩ := HCV.out j hjp
              have hbw : Below w.heap.size w wr := HB5.out.trans (HB.out.mono HB5.out.size)
              have p0 := cell_below hbw (Nat.le_refl _) k0
              have p1 := cell_below hbw (Nat.le_refl _) k1
              obtain ⟨al, cl, hlv2, -, -⟩ := id hsl
              obtain ⟨⟨l, x⟩, hpe⟩ : ∃ p : Pt, p = ps[j] := ⟨_, rfl⟩
              have hpm : (l, x) ∈ ps := by rw [hpe]; exact List.getElem_mem _
              rw [← hpe] at p1 hsl hlv2
              simp only at p1 hsl hlv2
              subst hlv2
              obtain ⟨nl, hnl⟩ : ∃ n, n = l.length := ⟨_, rfl⟩
              rw [← hnl] at p0 hsl
              have HSL := Lib.hid hsl
              have HBW := Lib.hid hbw
              have HH1 := Lib.hid (has_any _ (.slice al nl cl) qt l x wr (HV35.out.below HB.out (Nat.le_refl _)) (hsl.below hbw (Nat.le_refl _)))
              have HH2 := Lib.hid (fun w' (hb : Below wr.heap.size wr w') => has_any _ (.slice al nl cl) qu l x w' ((HV5.out.below HB.out (Nat.le_refl _)).below hb (Nat.le_refl _)) ((hsl.below hbw (Nat.le_refl _)).below hb (Nat.le_refl _)))
              have h1 := has_top (op := 6) (n := min K ps.length) HST.out hpm
              have h2 := has_top (op := 6) (n := min (K + 1) ps.length) HST.out hpm
              rw [← HQT.out] at h1
              rw [← HQU.out] at h2
              obtain ⟨bi, hbi⟩ : ∃ b, b = hasP qt (l, x) := ⟨_, rfl⟩
              rw [← hbi] at HH1 h1
              have HBI := Lib.hid h1
              have HB2I := Lib.hid h2
              have HPM := Lib.hid hpm
              clear k0 k1 hsl hbw hpe hpm hnl h1 h2 hbi
              cases bi with
              | true =>
                have hu : hasP qu (l, x) = true := by
                  rw [HB2I.out]
                  exact @decide_eq_true _ (Classical.propDecidable _) (top_more (by omega) (@of_decide_eq_true _ (Classical.propDecidable _) HBI.out.symm))
                rw [hu] at HH2
                clear hu
                go_wp2_with fail
                refine HH1.out.mono ?_
                rintro e w6 ⟨rfl, hb6⟩
                have p0 := cell_below hb6 (Nat.le_refl _) p0
                have p1 := cell_below hb6 (Nat.le_refl _) p1
                have HB6 := Lib.hid hb6
                clear hb6
                go_wp2_with fail
                refine (HH2.out _ HB6.out).mono ?_
                rintro e w7 ⟨rfl, hb7⟩
                have HB7 := Lib.hid (HB.out.trans ((HB6.out.trans (hb7.mono HB6.out.size)).mono HB.out.size))
                clear hb7
                go_wp2_with fail
                by_cases hz0 : 0 < K
                case' pos =>
                  have hzI : (0 : Int) < (K : Int) := by omega
                  have hzb : decide ((0 : Int) < (K : Int)) = true := decide_eq_true hzI
                  have hzn : decide (0 < K) = true := decide_eq_true hz0
                case' neg =>
                  have hzb : decide ((0 : Int) < (K : Int)) = false := decide_eq_false (by omega)
                  have hzn : decide (0 < K) = false := decide_eq_false hz0
                  clear hz0
                all_goals
                  go_loopw [14] (fun i wq => i = .int .i64 0 ∧ wq = w7) (fun _ _ => 0)
                  case atStart => exact ⟨rfl, rfl⟩
                  case round =>
                    obtain ⟨rfl, rfl⟩ := hrel
                    go_wp2_with fail
                    go_roundw
                    case rel => first | exact ⟨j + 1, by omega, by go_num, HB7.out⟩ | exact ⟨j + 1, by omega, by omega⟩
                    case measure => simp [intOf]; omega
              | false =>
                have hnt : (l, x) ∉ topP 6 (min K ps.length) ps := @of_decide_eq_false _ (Classical.propDecidable _) HBI.out.symm
                have HNT := Lib.hid hnt
                clear hnt
                go_wp2_with fail
                refine HH1.out.mono ?_
                rintro e w6 ⟨rfl, hb6⟩
                have p1 := cell_below hb6 (Nat.le_refl _) p1
                have HB6 := Lib.hid (HB.out.trans (hb6.mono HB.out.size))
                clear hb6
                go_wp2_with fail
                obtain ⟨W, hW⟩ : ∃ W, W = w6 := ⟨_, rfl⟩
                rw [← hW] at p1 HB6 ⊢
                clear hW
                go_loopw [14] (fun i wq => ∃ (m n : Nat), m ≤ K ∧ i = .int .i64 m ∧ wq = W.drewN n) (fun i _ => K - (intOf i).toNat)
                case atStart => exact ⟨0, 0, Nat.zero_le _, rfl, rfl⟩
                case round =>
                  obtain ⟨m, n, hm, rfl, rfl⟩ := hrel
                  have h02 : (0 : Int) ≤ (m : Int) := by omega
                  by_cases hlt2 : m < K
                  · have hltz2 : (m : Int) < (K : Int) := by omega
                    have hmq : m < qt.length := by have := HLT.out; omega
                    obtain ⟨b3, off3, lv3, rfl, -, k3, -⟩ := HCT.out m hmq
                    have q3 := cell_below HB6.out (Nat.le_refl _) (cell_below HB35.out (Nat.le_refl _) k3)
                    obtain ⟨y, hy⟩ : ∃ y, y = qt[m].2 := ⟨_, rfl⟩
                    rw [← hy] at q3
                    have hmem : qt[m] ∈ qt := List.getElem_mem hmq
                    generalize qt[m] = z at hmem hy
                    rw [HQT.out] at hmem
                    have hbf : beforeF y x = false := by
                      rw [hy]
                      exact top_ahead (p := (l, x)) HPM.out HNT.out hmem
                    have hfy : FB y := by
                      rw [hy]
                      obtain ⟨s, hs, rfl⟩ := List.mem_map.1 hmem
                      exact fb_canon (HFB.out s (top_sub s (mem_topS.1 hs)))
                    have HBF := Lib.hid (fun w => before_any y x w hfy (HFB.out _ HPM.out))
                    rw [hbf] at HBF
                    clear k3 hy hbf hfy hmem
                    go_wp2_with fail
                    go_quiet ((go_at_call 27; first | refine qs (HBF.out _) | refine quiet_same (HBF.out _)))
                    go_wp2_with fail
                    go_roundw
                    case rel => exact ⟨m + 1, _, by omega, by go_num, by first | rfl | (simp only [World.drewN_drewN]; done) | exact World.drewN_drewN _ _ _⟩
                    case measure => simp [intOf]; omega
                  · have hltz2 : ¬ (m : Int) < (K : Int) := by omega
                    go_wp2_with fail
                    go_roundw
                    case rel => exact ⟨j + 1, by omega, by go_num, below_drewN HB6.out n⟩
                    case measure => simp [intOf]; omega
            · have hltz : ¬ (j : Int) < (N : Int) := by omega
              go_wp2_with fail
              go_ret
              exact ⟨rfl, HB5.out.trans (HB.out.mono HB5.out.size)⟩
end Go.Proofs.YtogjcaakfnfapaaDoor
