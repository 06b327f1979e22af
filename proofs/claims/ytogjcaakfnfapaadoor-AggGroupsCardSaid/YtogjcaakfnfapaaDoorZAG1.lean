/- vector.Same; one point of a vector. has: whether a point is among some. topk and bottomk of a vector: plain law. slices.Insert at labels: one label into a row of one's own. slices.Insert at labels: the walk. slices.Insert at labels where there is no room. (Several texts in one file, by merge.py.) -/
import Derived.Test.YtogjcaakfnfapaaDoorZB1
import Derived.Test.YtogjcaakfnfapaaDoorZA7
import Derived.Test.YtogjcaakfnfapaaDoorZA9
import Derived.Test.YtogjcaakfnfapaaDoorZA8
import Derived.Lib.Overlaps
import Derived.Lib.AppendZerosOnto
import Derived.Laws.CopyRow
import Derived.Laws.Externs
import Derived.Outline
import Derived.Laws.CopyOwn
import Derived.Deep.RegionLaw
namespace Go.Proofs.YtogjcaakfnfapaaDoor
open Go Go.RowKit
set_option linter.unusedVariables false
set_option linter.unusedSimpArgs false
set_option maxRecDepth 100000
set_option maxHeartbeats 2000000 in
theorem same1_any (v1 v2 : Value) (b1 b2 : Nat) (l1 l2 : List Lb) (w : World) (h1 : Sl lenc w v1 l1) (h2 : Sl lenc w v2 l2) :
    Calls Tryd.prog 84 #[.agg #[v1, .float .f64 b1], .agg #[v2, .float .f64 b2]] w fun e w' => e = .returned (.bool (cmpL l1 l2 == 0 && fsame b1 b2)) ∧ Below w.heap.size w w' := by
  have HC := Lib.hid (fun w' (hb : Below w.heap.size w w') => compare_any v1 v2 l1 l2 w' (h1.below hb (Nat.le_refl _)) (h2.below hb (Nat.le_refl _)))
  obtain ⟨a1, cap1, rfl, -, -⟩ := h1
  obtain ⟨a2, cap2, rfl, -, -⟩ := h2
  obtain ⟨n1, hn1⟩ : ∃ n, n = l1.length := ⟨_, rfl⟩
  obtain ⟨n2, hn2⟩ : ∃ n, n = l2.length := ⟨_, rfl⟩
  rw [← hn1, ← hn2] at HC ⊢
  clear hn1 hn2
  obtain ⟨c, hc⟩ : ∃ c, c = cmpL l1 l2 := ⟨_, rfl⟩
  rw [← hc] at HC ⊢
  clear hc
  by_cases h0 : c = 0
  case' pos => have h0b : (c == 0) = true := by simpa using h0
  case' neg => have h0b : (c == 0) = false := by simpa using h0
  all_goals
    rw [h0b]
    go_enter Tryd.func84, Tryd.ntmps84
    go_wp2_with fail
    refine (HC.out _ (((Below.refl _ _).alloc (Nat.le_refl _) _).alloc (by simp) _)).mono ?_
    rintro e w1 ⟨rfl, hg⟩
    have q1 : w1.cell? ⟨w.heap.size, 1, none⟩ = some (.float .f64 b1) := cell_below hg.below (Nat.le_refl _) (by simp)
    have q2 : w1.cell? ⟨w.heap.size + 1, 1, none⟩ = some (.float .f64 b2) := cell_below hg.below (Nat.le_refl _) (by simp)
    have HG := Lib.hid (show Below w.heap.size w w1 from (((Below.refl _ _).alloc (Nat.le_refl _) _).alloc (by simp) _).trans (hg.below.mono (by simp; omega)))
    clear hg
    go_wp2_with (go_at_call 85; refine (same_any _ _ _).mono ?_; rintro e w2 ⟨rfl, rfl⟩)
    go_ret
    exact ⟨rfl, HG.out⟩
set_option maxHeartbeats 4000000 in
theorem vequal_any (v u : Value) (ps qs : List Pt) (w : World) (h : VS w v ps) (h' : VS w u qs) :
    Calls Tryd.prog 83 #[v, u, .func (.func 84) #[] #[]] w fun e w' => e = .returned (.bool (vsameL ps qs)) ∧ Below w.heap.size w w' := by
  obtain ⟨a, cap, rfl, hlen, hc⟩ := h.split
  obtain ⟨a2, cap2, rfl, hlen2, hc2⟩ := h'.split
  have HC := Lib.hid hc
  have HC2 := Lib.hid hc2
  clear hc hc2 h h'
  by_cases hl : ps.length = qs.length
  · have HL := Lib.hid hl
    obtain ⟨N, hN⟩ : ∃ N, N = ps.length := ⟨_, rfl⟩
    have hN2 : N = qs.length := hN.trans hl
    have HN := Lib.hid hN
    have HN2 := Lib.hid hN2
    rw [← hN] at hlen ⊢
    rw [← hN2] at hlen2 ⊢
    clear hl hN hN2
    go_enter Tryd.func83, Tryd.ntmps83
    go_wp2_with fail
    go_loopw [17] (fun i wr => ∃ (k : Nat), k ≤ N ∧ i = .int .i64 k ∧ Hid (∀ j (hj : j < ps.length) (hj2 : j < qs.length), j < k → cmpL ps[j].1 qs[j].1 = 0 ∧ fsame ps[j].2 qs[j].2 = true) ∧ Hid (Below w.heap.size w wr)) (fun i _ => N - (intOf i).toNat)
    case atStart => exact ⟨0, Nat.zero_le _, rfl, fun j _ _ hj => absurd hj (Nat.not_lt_zero _), Below.refl _ _⟩
    case round =>
      obtain ⟨k, hk, rfl, HV, HB⟩ := hrel
      have hBz := HB.out.size
      have h00 : (0 : Int) ≤ (k : Int) := by omega
      by_cases hlt : k < N
      · have hltz : (k : Int) < (N : Int) := by omega
        have hp : k < ps.length := by rw [← HN.out]; exact hlt
        have hq : k < qs.length := by rw [← HN2.out]; exact hlt
        obtain ⟨b, off, lv, rfl, k0, k1, hsl⟩ := HC.out k hp
        obtain ⟨b2, off2, lv2, rfl, k2, k3, hsl2⟩ := HC2.out k hq
        have p0 := cell_below HB.out (Nat.le_refl _) k0
        have p1 := cell_below HB.out (Nat.le_refl _) k1
        have p2 := cell_below HB.out (Nat.le_refl _) k2
        have p3 := cell_below HB.out (Nat.le_refl _) k3
        obtain ⟨x, hx⟩ : ∃ x, x = ps[k].2 := ⟨_, rfl⟩
        obtain ⟨y, hy⟩ : ∃ y, y = qs[k].2 := ⟨_, rfl⟩
        have HS1 := Lib.hid (fun w' (hb : Below w.heap.size w w') => same1_any lv lv2 ps[k].2 qs[k].2 ps[k].1 qs[k].1 w' (hsl.below hb (Nat.le_refl _)) (hsl2.below hb (Nat.le_refl _)))
        obtain ⟨a3, n3, c3, rfl⟩ : ∃ a n c, lv = .slice a n c := by
          obtain ⟨a2, c2, e, -⟩ := hsl
          exact ⟨a2, _, c2, e⟩
        obtain ⟨a4, n4, c4, rfl⟩ : ∃ a n c, lv2 = .slice a n c := by
          obtain ⟨a2, c2, e, -⟩ := hsl2
          exact ⟨a2, _, c2, e⟩
        have hlt2 : b2 < wr.heap.size := World.block_lt_of_cell? wr _ p2
        have hne : b2 ≠ wr.heap.size := by omega
        obtain ⟨r, hr⟩ : ∃ r, r = (cmpL ps[k].1 qs[k].1 == 0 && fsame ps[k].2 qs[k].2) := ⟨_, rfl⟩
        rw [← hr, ← hx, ← hy] at HS1
        rw [← hx] at p1
        rw [← hy] at p3
        have HRR := Lib.hid hr
        clear hsl hsl2 k0 k1 k2 k3 hx hy hr
        have HB2 := Lib.hid (show ∀ o1 o2, Below w.heap.size w ((wr.alloc o1).alloc o2) from fun o1 o2 => (HB.out.alloc hBz _).alloc (by simp; omega) _)
        cases r with
        | false =>
          have HF := Lib.hid (vsame_no (ps := ps) (qs := qs) fun h => by
            have h1 := h.2 k hp hq
            have h2 := HRR.out
            rw [h1.1, h1.2] at h2
            cases h2)
          go_wp2_with fail
          refine (HS1.out _ (HB2.out _ _)).mono ?_
          rintro e w3 ⟨rfl, hb3⟩
          have HB3 := Lib.hid ((HB2.out _ _).trans (hb3.mono (by simp; omega)))
          clear hb3
          go_wp2_with fail
          go_ret
          exact ⟨by rw [HF.out] <;> rfl, HB3.out⟩
        | true =>
          go_wp2_with fail
          refine (HS1.out _ (HB2.out _ _)).mono ?_
          rintro e w3 ⟨rfl, hb3⟩
          have HB3 := Lib.hid ((HB2.out _ _).trans (hb3.mono (by simp; omega)))
          clear hb3
          go_wp2_with fail
          go_roundw
          case rel => exact ⟨k + 1, by omega, by go_num, (fun j hj hj2 hj1 => by
            by_cases hjk : j = k
            · subst hjk
              have h2 := HRR.out.symm
              rw [Bool.and_eq_true] at h2
              exact ⟨by simpa using h2.1, h2.2⟩
            · exact HV.out j hj hj2 (by omega)), HB3.out⟩
          case measure => simp [intOf]; omega
      · have hltz : ¬ (k : Int) < (N : Int) := by omega
        have HF := Lib.hid (show vsameL ps qs = true from vsame_yes ⟨HL.out, fun j hj hj2 => HV.out j hj hj2 (by have := HN.out; omega)⟩)
        go_wp2_with fail
        go_ret
        exact ⟨by rw [HF.out] <;> rfl, HB.out⟩
  · have HF := Lib.hid (vsame_no (ps := ps) (qs := qs) fun h => hl h.1)
    have hz : ¬ (ps.length : Int) = (qs.length : Int) := by omega
    have hzb : ((ps.length : Int) == (qs.length : Int)) = false := by simpa using hz
    have hzc : ((ps.length : Int) != (qs.length : Int)) = true := by simpa using hz
    go_enter Tryd.func83, Tryd.ntmps83
    go_wp2_with fail
    go_ret
    exact ⟨by rw [HF.out] <;> rfl, Below.refl _ _⟩
theorem csame_any (v u : Value) (ps qs : List Pt) (w : World) (h : VS w v ps) (h' : VS w u qs) :
    Calls Tryd.prog 45 #[v, u] w fun e w' => e = .returned (.bool (vsameL ps qs)) ∧ Below w.heap.size w w' := by
  have HE := Lib.hid (vequal_any v u ps qs w h h')
  clear h h'
  go_enter Tryd.func45, Tryd.ntmps45
  go_wp2_with fail
  refine HE.out.mono ?_
  rintro e w1 ⟨rfl, hb⟩
  have HB := Lib.hid hb
  clear hb
  go_wp2_with fail
  go_ret
  exact ⟨rfl, HB.out⟩
theorem Tryd.elemVec : Tryd.prog.underlying 27 = some (.slice (Tryd.prog.elem 27)) := by kernel_rfl
theorem Tryd.sizeVec (w : World) : (sizeOf (Tryd.prog.elem 27)).run Tryd.prog w = .ok 2 w := by rfl
theorem VS.one {w : World} {a : Option Addr} {n cap : Nat} {ps : List Pt} (h : VS w (.slice a n cap) ps) {k : Nat} (hk : k < ps.length) :
    ∃ a1 c1, (∀ W : World, (Instr.slice 27 (.slice a n cap) (some (.int .i64 (k : Int))) (some (.int .i64 ((k : Int) + 1))) none).run Tryd.prog W = .ok (.slice a1 1 c1) W) ∧ VS w (.slice a1 1 c1) [ps[k]] := by
  obtain ⟨a0, cap0, e, hm, hc⟩ := h.split
  injection e with e1 e2 e3
  subst e1 e2 e3
  obtain ⟨b, off, lv, rfl, k0, k1, hs⟩ := hc k hk
  refine ⟨some ⟨b, off + k * 2, none⟩, cap - k, fun W => ?_, ?_⟩
  · rw [run_slice_lh W 27 (some ⟨b, off, none⟩) ps.length cap Tryd.elemVec .i64 .i64 k ((k : Int) + 1) (by omega) (by omega) (by omega), Tryd.sizeVec]
    have e1 : ((k : Int) + 1).toNat = k + 1 := by omega
    simp only [Result.andThen, sliced, Int.toNat_natCast, e1]
    rw [if_neg (by omega), show k + 1 - k = 1 by omega]
    simp [Addr.add_lit]
  · refine ⟨[(lv, ps[k].2)], ⟨_, _, rfl, ⟨by simp; omega, by omega⟩, (fun e => by cases e), fun _ => ⟨b, off + k * 2, rfl, fun j u hu => ?_⟩⟩, rfl, fun i hi hi2 => ?_⟩
    · match j, hu with
      | 0, hu => simp [penc] at hu; subst hu; exact k0
      | 1, hu => simp [penc] at hu; subst hu; exact k1
    · have : i = 0 := by simp at hi; omega
      subst this
      exact ⟨hs, rfl⟩
end Go.Proofs.YtogjcaakfnfapaaDoor
namespace Go.Proofs.YtogjcaakfnfapaaDoor
open Go Go.RowKit
set_option linter.unusedVariables false
set_option linter.unusedSimpArgs false
set_option maxRecDepth 100000
noncomputable def hasP (ps : List Pt) (p : Pt) : Bool := ps.any fun q => vsameL [q] [p]
theorem hasP_drop {ps : List Pt} {p : Pt} {k : Nat} (h : k < ps.length) : hasP (ps.drop k) p = (vsameL [ps[k]] [p] || hasP (ps.drop (k + 1)) p) := by
  rw [List.drop_eq_getElem_cons h]; rfl
theorem one_lit (w : World) (lv : Value) (l : List Lb) (x : Nat) (hl : Sl lenc w lv l) : VS (w.alloc (.cells #[lv, .float .f64 x] 42)) (.slice (some ⟨w.heap.size, 0, none⟩) 1 1) [(l, x)] :=
  vs_of (zs := [(lv, l, x)]) (Sl.lit (heap_new _ _) rfl rfl (by decide)) (fun z hz => by
    rw [List.mem_singleton.1 hz]
    exact hl.below ((Below.refl _ _).alloc (Nat.le_refl _) _) (Nat.le_refl _))
set_option maxHeartbeats 4000000 in
theorem has_any (v lv : Value) (ps : List Pt) (l : List Lb) (x : Nat) (w : World) (h : VS w v ps) (hl : Sl lenc w lv l) :
    Calls Tryd.prog 26 #[v, .agg #[lv, .float .f64 x]] w fun e w' => e = .returned (.bool (hasP ps (l, x))) ∧ Below w.heap.size w w' := by
  have HVS := Lib.hid h
  have HSL := Lib.hid hl
  obtain ⟨a, cap, rfl, hlen, -⟩ := h.split
  obtain ⟨al, cl, rfl, -, -⟩ := id hl
  obtain ⟨nl, hnl⟩ : ∃ n, n = l.length := ⟨_, rfl⟩
  rw [← hnl] at HSL ⊢
  have HONE := Lib.hid (fun (k : Nat) (hk : k < ps.length) => HVS.out.one hk)
  clear h hl hnl
  obtain ⟨N, hN⟩ : ∃ N, N = ps.length := ⟨_, rfl⟩
  rw [← hN] at hlen HVS ⊢
  have HN := Lib.hid hN
  clear hN
  obtain ⟨w0, hw0⟩ : ∃ w0, w0 = w.alloc (.cells #[.slice al nl cl, .float .f64 x] 42) := ⟨_, rfl⟩
  have hb0 : Below w.heap.size w w0 := by rw [hw0]; exact (Below.refl _ _).alloc (Nat.le_refl _) _
  obtain ⟨bg, hbg⟩ : ∃ b, b = w.heap.size := ⟨_, rfl⟩
  have g0 : w0.cell? ⟨bg, 0, none⟩ = some (.slice al nl cl) := by rw [hw0, hbg]; simp
  have g1 : w0.cell? ⟨bg, 1, none⟩ = some (.float .f64 x) := by rw [hw0, hbg]; simp
  have HW0 := Lib.hid hw0
  have HB0 := Lib.hid hb0
  have HBG := Lib.hid hbg
  have G0 := Lib.hid g0
  have G1 := Lib.hid g1
  clear hw0 hb0 hbg g0 g1
  go_enter Tryd.func26, Tryd.ntmps26
  go_wp2_with fail
  rw [← HW0.out, ← HBG.out]
  go_loopw [5] (fun i wr => ∃ k : Nat, k ≤ N ∧ i = .int .i64 k ∧ Hid (hasP (ps.drop k) (l, x) = hasP ps (l, x)) ∧ Hid (Below w0.heap.size w0 wr)) (fun i _ => N - (intOf i).toNat)
  case atStart => exact ⟨0, Nat.zero_le _, rfl, rfl, Below.refl _ _⟩
  case round =>
    obtain ⟨k, hk, rfl, HV, HB⟩ := hrel
    have h00 : (0 : Int) ≤ (k : Int) := by omega
    have hBz := HB.out.size
    by_cases hlt : k < N
    · have hltz : (k : Int) < (N : Int) := by omega
      have hkp : k < ps.length := by have := HN.out; omega
      have g0 := cell_below HB.out (Nat.le_refl _) G0.out
      have g1 := cell_below HB.out (Nat.le_refl _) G1.out
      obtain ⟨a4, c4, E4, hv4⟩ := HONE.out k hkp
      rw [← HN.out] at E4
      have hbw : Below w.heap.size w wr := HB0.out.trans (HB.out.mono HB0.out.size)
      have HCS := Lib.hid (fun (v2 : Value) w' (hb : Below wr.heap.size wr w') (h2 : VS w' v2 [(l, x)]) => csame_any (.slice a4 1 c4) v2 [ps[k]] [(l, x)] w' (hv4.below (hbw.trans (hb.mono hbw.size)) (Nat.le_refl _)) h2)
      have HSB := Lib.hid (fun w' (hb : Below wr.heap.size wr w') => HSL.out.below (hbw.trans (hb.mono hbw.size)) (Nat.le_refl _))
      obtain ⟨r, hr⟩ : ∃ r, r = vsameL [ps[k]] [(l, x)] := ⟨_, rfl⟩
      rw [← hr] at HCS
      have HD := Lib.hid (show hasP (ps.drop k) (l, x) = (r || hasP (ps.drop (k + 1)) (l, x)) by rw [hr]; exact hasP_drop hkp)
      have hw4 : IntKind.i64.wrap ((k : Int) + 1) = (k : Int) + 1 := by rw [IntKind.wrap_i64] <;> omega
      have h04 : (k : Int) + 1 ≤ (cap : Int) := by omega
      clear hr hv4 hbw
      go_wp2_with fail
      have hbA : Below wr.heap.size wr wr := Below.refl _ _
      go_region_held3 (fun w' => w'.cell? ⟨bg, 0, none⟩ = some (.slice al nl cl) ∧ w'.cell? ⟨bg, 1, none⟩ = some (.float .f64 x))
        (exact ⟨cell_below (B := wr.heap.size) (by go_grown) (Nat.le_refl _) g0, cell_below (B := wr.heap.size) (by go_grown) (Nat.le_refl _) g1⟩)
        ((go_at_call 45
          refine (HCS.out _ _ (by go_grown) ((one_lit wr (.slice al nl cl) l x (HSB.out _ (Below.refl _ _))).below (by go_grown) (Nat.le_refl _))).mono ?_
          rintro e w9 ⟨rfl, hb9⟩
          have hbA : Below wr.heap.size wr w9 := Below.trans (by go_grown) (hb9.mono (by first | exact Nat.le_refl _ | (simp; done) | (simp; omega)))))
      have HBA := Lib.hid hbA
      clear hbA hb9
      cases r with
      | true =>
        have HF := Lib.hid (show hasP ps (l, x) = true by rw [← HV.out, HD.out]; rfl)
        go_wp2_with fail
        go_ret
        exact ⟨by rw [HF.out] <;> rfl, HB0.out.trans ((HB.out.trans (HBA.out.mono hBz)).mono HB0.out.size)⟩
      | false =>
        go_wp2_with fail
        go_roundw
        case rel => exact ⟨k + 1, by omega, by go_num, by show _ = _; rw [← HV.out, HD.out]; rfl, HB.out.trans (HBA.out.mono hBz)⟩
        case measure => simp [intOf]; omega
    · have hltz : ¬ (k : Int) < (N : Int) := by omega
      have HF := Lib.hid (show hasP ps (l, x) = false by rw [← HV.out, List.drop_eq_nil_of_le (by have := HN.out; omega)]; rfl)
      go_wp2_with fail
      go_ret
      exact ⟨by rw [HF.out] <;> rfl, HB0.out.trans (HB.out.mono HB0.out.size)⟩
end Go.Proofs.YtogjcaakfnfapaaDoor
namespace Go.Proofs.YtogjcaakfnfapaaDoor
open Go Go.RowKit Go.Sort
set_option linter.unusedVariables false
set_option linter.unusedSimpArgs false
theorem vright_parts {ps : List Pt} (h : vrightL ps = true) : Strict ps ∧ ∀ p ∈ ps, rightL p.1 = true := by
  have hv : VRight ps := by
    unfold vrightL at h
    exact @of_decide_eq_true _ (Classical.propDecidable _) h
  refine ⟨?_, fun p hp => ?_⟩
  · have hadj : ∀ k (h0 : k + 1 < ps.length), cmpL ps[k].1 ps[k + 1].1 < 0 := fun k h0 => (hv (k + 1) h0).2 (by omega)
    unfold Strict
    rw [List.pairwise_iff_getElem]
    intro i j hi hj hij
    induction j with
    | zero => omega
    | succ j ih =>
      by_cases hj2 : i = j
      · subst hj2; exact hadj i hj
      · have h1 := ih (by omega) (by omega)
        exact (cmpL_trans _ _ _ (by omega) (by have := hadj j hj; omega)).2 (.inl h1)
  · obtain ⟨k, hk, rfl⟩ := List.mem_iff_getElem.1 hp
    exact (hv k hk).1
/-- An answer of Normal to points that can be put in order. -/
theorem nr_of {l t : List Pt} {e : Ending} {w : World} (hr : ∀ p ∈ l, rightL p.1 = true) (ht : Strict t) (hp : t.Perm (l.map canonP)) (h : NR l e w) : ∃ v, e = .returned (.tuple #[v, .int .i64 0]) ∧ VS w v t := by
  rcases h with ⟨⟨p, hpp, h1⟩, -⟩ | ⟨-, h1, -⟩ | ⟨-, q, v', h1, h2, h3, h4⟩
  · rw [hr p hpp] at h1; cases h1
  · exact absurd ht (h1 _ hp)
  · have : q = t := strictp_unique (h1.trans hp.symm) h2 ht
    subst this
    exact ⟨v', h3, h4⟩
theorem fo_fenc (x o : Int) (hx : x.natAbs < 2 ^ 53) (ho : o.natAbs < 2 ^ 53) : fo (fenc x) (fenc o) = some (compare x o) := by
  have := order_units (fenc_val x hx) (fenc_val o ho)
  rw [sgn_fenc, sgn_fenc] at this
  have hT : (0 : Int) < (TU : Int) := by have := TU_pos; omega
  show Ieee.double.order (fenc x) (fenc o) = _
  rw [this]
  have lt : x * (TU : Int) < o * (TU : Int) ↔ x < o := Int.mul_lt_mul_right hT
  have eq : x * (TU : Int) = o * (TU : Int) ↔ x = o := Int.mul_eq_mul_right_iff (by omega)
  congr 1
  simp only [compare, compareOfLessAndEq, lt, eq]
theorem cntP_fenc (k n : Nat) (hk : k ≤ 1000) (hn : n ≤ 1000) : cntP (fenc (k : Int)) n = decide (n + 1 ≤ k) := by
  unfold cntP leF
  rw [fo_fenc _ _ (by omega) (by omega), Bool.eq_iff_iff]
  have hcmp : compare ((n : Int) + 1) (k : Int) = if (n : Int) + 1 < k then .lt else if (n : Int) + 1 = k then .eq else .gt := rfl
  rw [hcmp]
  by_cases h1 : (n : Int) + 1 < k
  · simp [h1]; omega
  · by_cases h2 : (n : Int) + 1 = k
    · simp [h1, h2]; omega
    · simp [h1, h2]; omega
theorem cntN_fenc (k len : Nat) (hk : k ≤ 1000) (hl : len ≤ 1000) : cntN (fenc (k : Int)) len = min k len :=
  cntN_of (fun j hj => by rw [cntP_fenc k j hk (by omega)]; exact decide_eq_true (by omega)) (by omega) (fun h => by rw [cntP_fenc k _ hk (by omega)]; exact decide_eq_false (by omega))
theorem firsts_all {β : Type} (gl : β → List Lb) (zs : List β) (h : ∀ z, gl z = []) (hne : zs ≠ []) : firstsG gl zs = [[]] := by
  have : ∀ zs : List β, firstsG gl zs = if zs = [] then [] else [[]] := by
    refine take_ind ?_ ?_
    · rfl
    · intro l z ih
      rw [firsts_snoc, ih, h z]
      by_cases e : l = []
      · subst e; simp
      · simp [e]
  rw [this, if_neg hne]
def topP (op : Int) (n : Nat) (ps : List Pt) : List Pt := (stabF (aheadP op) ps).take n
theorem agg_all (op : Int) (k : Nat) (ps : List Pt) (h : takesB op = true) : aggP op 0 [] k ps = topP op (cntN k ps.length) ps := by
  have hg : ∀ p, glP 0 [] p = [] := fun p => rfl
  by_cases he : ps = []
  · subst he; rfl
  · unfold aggP topP
    rw [firsts_all _ _ hg he, List.flatMap_cons, List.flatMap_nil, List.append_nil, outP, if_pos h]
    have : membG (glP 0 []) ps [] = ps := List.filter_eq_self.2 fun p _ => decide_eq_true (hg p)
    rw [this]
theorem top_sub {op : Int} {n : Nat} {ps : List Pt} : ∀ p ∈ topP op n ps, p ∈ ps := fun p hp => (stab_perm _ _).subset (List.mem_of_mem_take hp)
theorem top_len {op : Int} {n : Nat} {ps : List Pt} : (topP op n ps).length = min n ps.length := by
  unfold topP; rw [List.length_take, (stab_perm _ _).length_eq]
theorem strict_pts_nodup {ps : List Pt} (h : Strict ps) : ps.Nodup := (List.pairwise_map.1 (strict_nodup h)).imp fun hab e => hab (by rw [e])
theorem top_nodup {op : Int} {n : Nat} {ps : List Pt} (h : Strict ps) : (topP op n ps).Nodup := by
  have h1 : (stabF (aheadP op) ps).Nodup := (stab_perm _ _).nodup_iff.2 (strict_pts_nodup h)
  exact h1.sublist (List.take_sublist _ _)
/-- The chosen points, in the vector's order. -/
noncomputable def topS (op : Int) (n : Nat) (ps : List Pt) : List Pt := ps.filter fun p => @decide (p ∈ topP op n ps) (Classical.propDecidable _)
theorem mem_topS {op : Int} {n : Nat} {ps : List Pt} {p : Pt} : p ∈ topS op n ps ↔ p ∈ topP op n ps := by
  unfold topS
  rw [List.mem_filter]
  constructor
  · rintro ⟨-, h⟩; exact @of_decide_eq_true _ (Classical.propDecidable _) h
  · intro h; exact ⟨top_sub p h, @decide_eq_true _ (Classical.propDecidable _) h⟩
theorem topS_strict {op : Int} {n : Nat} {ps : List Pt} (h : Strict ps) : Strict (topS op n ps) := List.Pairwise.filter _ h
theorem canon_strict {ps : List Pt} (h : Strict ps) : Strict (ps.map canonP) := by
  unfold Strict; rw [List.pairwise_map]; exact h
theorem topS_perm {op : Int} {n : Nat} {ps : List Pt} (h : Strict ps) : (topS op n ps).Perm (topP op n ps) :=
  (List.perm_ext_iff_of_nodup (strict_pts_nodup (topS_strict h)) (top_nodup h)).2 fun p => mem_topS
theorem nr_top {op : Int} {n : Nat} {ps : List Pt} {e : Ending} {w : World} (hs : Strict ps) (hr : ∀ p ∈ ps, rightL p.1 = true) (h : NR (topP op n ps) e w) : ∃ v, e = .returned (.tuple #[v, .int .i64 0]) ∧ VS w v ((topS op n ps).map canonP) :=
  nr_of (fun p hp => hr p (top_sub p hp)) (canon_strict (topS_strict hs)) ((topS_perm hs).map _) h
theorem aggr_top {op : Int} {k : Nat} {ps : List Pt} {e : Ending} {w : World} (h6 : op = 6 ∨ op = 7) (hs : Strict ps) (hr : ∀ p ∈ ps, rightL p.1 = true) (h : AggR op 0 [] k ps e w) : ∃ v, e = .returned (.tuple #[v, .int .i64 0]) ∧ VS w v ((topS op (cntN k ps.length) ps).map canonP) := by
  rcases h with ⟨h1 | h1, -⟩ | ⟨-, -, h3⟩
  · rcases h6 with rfl | rfl <;> exact absurd h1 (by decide)
  · exact absurd (show chkL 0 [] = 0 by decide +kernel) h1
  · rw [agg_all op k ps (by rcases h6 with rfl | rfl <;> rfl)] at h3
    exact nr_top hs hr h3
theorem topS_len {op : Int} {n : Nat} {ps : List Pt} (h : Strict ps) : ((topS op n ps).map canonP).length = min n ps.length := by
  rw [List.length_map, (topS_perm h).length_eq, top_len]
theorem same_point {ps : List Pt} (h : Strict ps) {s p : Pt} (hs : s ∈ ps) (hp : p ∈ ps) (e : s.1 = p.1) : s = p := by
  obtain ⟨i, hi, rfl⟩ := List.mem_iff_getElem.1 hs
  obtain ⟨j, hj, rfl⟩ := List.mem_iff_getElem.1 hp
  have h1 := List.pairwise_iff_getElem.1 h
  rcases Nat.lt_trichotomy i j with c | c | c
  · have := h1 i j hi hj c; rw [e, cmpL_refl] at this; omega
  · subst c; rfl
  · have := h1 j i hj hi c; rw [e, cmpL_refl] at this; omega
/-- A point of the vector is among the chosen ones just if it is one. -/
theorem has_top {op : Int} {n : Nat} {ps : List Pt} (h : Strict ps) {p : Pt} (hp : p ∈ ps) : hasP ((topS op n ps).map canonP) p = @decide (p ∈ topP op n ps) (Classical.propDecidable _) := by
  rw [Bool.eq_iff_iff]
  unfold hasP
  rw [List.any_eq_true]
  constructor
  · rintro ⟨q, hq, hs⟩
    obtain ⟨s, hs1, rfl⟩ := List.mem_map.1 hq
    have h1 : cmpL s.1 p.1 = 0 := ((@of_decide_eq_true _ (Classical.propDecidable _) hs : VSame [canonP s] [p]).2 0 (by simp) (by simp)).1
    have h2 : s = p := by
      have hs2 : s ∈ ps := top_sub s (mem_topS.1 hs1)
      exact same_point h hs2 hp ((cmpL_eq _ _).1 h1)
    subst h2
    exact @decide_eq_true _ (Classical.propDecidable _) (mem_topS.1 hs1)
  · intro hd
    have h1 := @of_decide_eq_true _ (Classical.propDecidable _) hd
    refine ⟨canonP p, List.mem_map_of_mem (mem_topS.2 h1), vsame_yes ⟨rfl, fun k hk hk2 => ?_⟩⟩
    have : k = 0 := by simp at hk; omega
    subst this
    refine ⟨cmpL_refl _, ?_⟩
    show fsame (canon p.2) p.2 = true
    unfold fsame; rw [canon_canon]; simp
theorem before_canon_l (a b : Nat) : beforeF (canon a) b = beforeF a b := by
  cases h : fnan a with
  | false => rw [canon_num h]
  | true =>
    rw [canon_nan h, before_key, before_key]
    have h1 := fcls_nan h
    have h2 := fcls_nan CN_nan
    have z1 : fz a = 0 := by unfold fz zer; rw [fo_nan_l 0 h]; rfl
    have z2 : fz CN = 0 := by unfold fz zer; rw [fo_nan_l 0 CN_nan]; rfl
    rw [h1.1, h1.2, h2.1, h2.2, z1, z2]
theorem stab_pairs (op : Int) (ps : List Pt) : (stabF (aheadP op) ps).Pairwise fun a b => aheadP op b a = false := by
  have hS : SWO (aheadP op) := by
    have h := keylt_swo (fun z : Pt => akey op z.2)
    have e : aheadP op = fun x y => keylt (akey op x.2) (akey op y.2) := by
      funext x y; exact ahead_key op _ _
    rw [e]; exact h
  have h := stab_sorted hS ps
  have e : (stabF (fun a b : Pt × Nat => aheadP op a.1 b.1) ps.zipIdx).map Prod.fst = stabF (aheadP op) ps := by rw [stab_map Prod.fst (aheadP op), List.zipIdx_map_fst]
  rw [← e, List.pairwise_map]
  refine h.imp ?_
  intro a b hab
  unfold lexI at hab
  rw [Bool.or_eq_false_iff] at hab
  exact hab.1
/-- None that topk leaves out comes behind one that it has. -/
theorem top_ahead {n : Nat} {ps : List Pt} {p q : Pt} (hp : p ∈ ps) (hn : p ∉ topP 6 n ps) (hq : q ∈ (topS 6 n ps).map canonP) : beforeF q.2 p.2 = false := by
  obtain ⟨s, hs, rfl⟩ := List.mem_map.1 hq
  show beforeF (canon s.2) p.2 = false
  rw [before_canon_l]
  have hsT := mem_topS.1 hs
  have hpL : p ∈ stabF (aheadP 6) ps := (stab_perm _ _).symm.subset hp
  obtain ⟨i, hi, e1⟩ := List.mem_iff_getElem.1 hsT
  obtain ⟨j, hj, e2⟩ := List.mem_iff_getElem.1 hpL
  unfold topP at hi e1
  rw [List.length_take] at hi
  rw [List.getElem_take] at e1
  have hij : i < j := by
    rcases Nat.lt_or_ge j n with h | h
    · exfalso
      apply hn
      unfold topP
      rw [← e2]
      exact List.mem_take_iff_getElem.2 ⟨j, by omega, rfl⟩
    · omega
  have := List.pairwise_iff_getElem.1 (stab_pairs 6 ps) i j (by omega) hj hij
  rw [e1, e2] at this
  exact this
theorem top_more {n m : Nat} {ps : List Pt} {p : Pt} (h : n ≤ m) (hp : p ∈ topP 6 n ps) : p ∈ topP 6 m ps := by
  unfold topP at *
  exact (List.take_sublist_take_left h).subset hp
end Go.Proofs.YtogjcaakfnfapaaDoor
namespace Go.Proofs.YtogjcaakfnfapaaDoor
open Go Go.RowKit
set_option linter.unusedVariables false
set_option linter.unusedSimpArgs false
set_option maxRecDepth 100000
/-- copy between rows of elements of k cells. -/
theorem run_copy_rowK {P : Program} (w : World) (dT sT ty elem : TypeId) (k g o dLen dCap : Nat) (a : Addr) (sLen sCap : Nat) (cur : Array Value) (t : TypeId) (cs : List Value)
    (hu : P.underlying dT = some (.slice elem)) (hs : (P.info? elem).map (·.size) = some k)
    (hg : w.heap[g]? = some (.cells cur t (0, 0))) (hn : cs.length = Nat.min sLen dLen * k)
    (hsrc : ∀ j v, cs[j]? = some v → w.cell? (a.add j) = some v) (hfit : o + cs.length ≤ cur.size) (h1 : ∀ v ∈ cs, v.oneCell' = true) :
    (Builtin.copy_ #[dT, sT] ty #[.slice (some ⟨g, o, none⟩) dLen dCap, .slice (some a) sLen sCap]).run P w =
      .ok (goInt (Nat.min sLen dLen)) (w.setRow g (cur.toList.take o ++ cs ++ cur.toList.drop (o + cs.length)).toArray) := by
  have hl := run_loadCells_list (P := P) w a cs hsrc
  have hst := run_storeCells_at P g o t cs 0 cur w hg (by simpa using hfit) h1
  cases hq : P.info? elem with
  | none => simp [hq] at hs
  | some i =>
    have hi : i.size = k := by simpa [hq] using hs
    simp [Builtin.copy_, run_underlying hu, Builtin.lenOf, Builtin.firstCells, sizeOf, typeInfo, hq, hi, ← hn, hl, hst]
theorem wpList_copy_run' {P : Program} (w : World) {ops : Array Oper} {rest : List Oper} {o : Oper} {a : Act} {Q : Exit → Act → World → Prop} (hgd : o.guard = none) (d s : Operand) (t t' : TypeId)
    (ho : o.op = .call { callee := .builtin .copy, args := #[d, s], argTypes := #[t, t'] }) (v u : Value) (hd : a.eval d = v) (hs : a.eval s = u) {v' : Value} {w' : World}
    (hr : (Builtin.copy_ #[t, t'] o.type #[v, u]).run P w = .ok v' w') (h : wpList P ops Q rest (a.put o.dst v') w') : wpList P ops Q (o :: rest) a w :=
  wpList_plain hgd fun _ hK => by
    unfold Oper.wp execOp
    simp only [ho, resolve, invoke, builtin, Sem.run_bind, Sem.run_pure, Result.andThen_ok, List.map_toArray, List.map_cons, List.map_nil, hd, hs, hr]
    exact hK _ _ h
theorem step_copy_run' {P : Program} {ops : Array Oper} {o : Oper} {a : Act} {w : World} {K : Act → World → Prop} {Q : Exit → Act → World → Prop} {E : Prop}
    (hg : o.guard = none) (d x : Operand) (dT sT : TypeId) (hop : o.op = Op.call { callee := Callee.builtin Builtin.copy, args := #[d, x], argTypes := #[dT, sT] })
    (v u : Value) (hd : a.eval d = v) (hx : a.eval x = u) {v' : Value} {w' : World} (hr : (Builtin.copy_ #[dT, sT] o.type #[v, u]).run P w = .ok v' w') (hK : K (a.put o.dst v') w') :
    if Region.wanted o (yielded ops a.tmps) = true then Oper.wp P o a w K Q else E := by
  have hw : Region.wanted o (yielded ops a.tmps) = true := by simp [Region.wanted, hg]
  rw [if_pos hw]
  unfold Oper.wp
  simp [execOp, hop, resolve, invoke, builtin, hd, hx, hr, Result.andThen]
  exact hK
theorem Tryd.sizeLb' (w : World) : (sizeOf 69).run Tryd.prog w = .ok 2 w := by rfl
theorem Sl.row {α : Type} {enc : α → List Value} {w : World} {g cap n : Nat} {t : TypeId} {fr : Nat × Nat} {cur : Array Value} {xs : List α} {R : List Value} (hg : w.heap[g]? = some (.cells cur t fr)) (hc : cur.toList = xs.flatMap enc ++ R) (hn : n = xs.length) (hcap : n ≤ cap ∧ cap ≤ 9223372036854775807) : Sl enc w (.slice (some ⟨g, 0, none⟩) n cap) xs := by
  subst hn
  refine ⟨_, cap, rfl, hcap, (fun e => by cases e), fun _ => ⟨g, 0, rfl, fun j u hu => ?_⟩⟩
  rw [Nat.zero_add, cell_of_row w g j cur t fr hg, ← Array.getElem?_toList, hc, List.getElem?_append_left (List.getElem?_eq_some_iff.1 hu).1]
  exact hu
/-- What the two copies leave of a row. -/
theorem two_copies (T D R X : List Value) (n2 i2 : Nat) (hi : i2 = T.length) (hX : X.length = 2) (hR : 2 ≤ R.length) :
    (((T ++ D ++ R).take (i2 + 2) ++ D ++ (T ++ D ++ R).drop (i2 + 2 + D.length)).take i2 ++ X ++ ((T ++ D ++ R).take (i2 + 2) ++ D ++ (T ++ D ++ R).drop (i2 + 2 + D.length)).drop (i2 + X.length)) = T ++ X ++ D ++ R.drop 2 := by
  subst hi
  have e1 : (T ++ D ++ R).drop (T.length + 2 + D.length) = R.drop 2 := by
    rw [show T.length + 2 + D.length = (T ++ D).length + 2 by rw [List.length_append]; omega, List.drop_append, List.drop_of_length_le (by omega), List.nil_append]
    congr 1; omega
  have e2 : (T ++ D ++ R).take (T.length + 2) = T ++ (D ++ R).take 2 := by
    rw [List.append_assoc, List.take_append, List.take_of_length_le (by omega)]
    congr 2; omega
  have e3 : ((D ++ R).take 2).length = 2 := by rw [List.length_take, List.length_append]; omega
  rw [e1, e2, hX]
  have e4 : (T ++ (D ++ R).take 2 ++ D ++ R.drop 2).take T.length = T := by
    rw [List.append_assoc, List.append_assoc, List.take_append, List.take_of_length_le (Nat.le_refl _)]; simp
  have e5 : (T ++ (D ++ R).take 2 ++ D ++ R.drop 2).drop (T.length + 2) = D ++ R.drop 2 := by
    rw [show T ++ (D ++ R).take 2 ++ D ++ R.drop 2 = (T ++ (D ++ R).take 2) ++ (D ++ R.drop 2) by simp only [List.append_assoc]]
    rw [show T.length + 2 = (T ++ (D ++ R).take 2).length by rw [List.length_append, e3]]
    exact List.drop_left
  rw [e4, e5]
  simp only [List.append_assoc]
end Go.Proofs.YtogjcaakfnfapaaDoor
namespace Go.Proofs.YtogjcaakfnfapaaDoor
open Go Go.RowKit
set_option linter.unusedVariables false
set_option linter.unusedSimpArgs false
set_option maxRecDepth 100000
theorem lenc_two (t y : ByteArray) : ∀ u ∈ [Value.string t, .string y], u.oneCell' = true := by
  intro u hu
  simp at hu
  rcases hu with rfl | rfl <;> rfl
theorem ins_end (v : Value) (base : Nat) (d : List Lb) (t y : ByteArray) (b1 : Nat) (w : World) (hown : w.ownsRow base 69 2 v d.length (d.flatMap lenc)) (hl : d.length ≤ 1000000)
    (hx : w.heap[b1]? = some (.cells #[.string t, .string y] 69 (0, 0))) (hbw : base ≤ w.heap.size) :
    Calls Tryd.prog 125 #[v, .int .i64 d.length, .slice (some ⟨b1, 0, none⟩) 1 1] w fun e w' => ∃ v', e = .returned v' ∧ Sl lenc w' v' (d ++ [(t, y)]) ∧ Below base w w' := by
  obtain ⟨i0, hi, hz0, hz1, hz2⟩ := info_parts Tryd.infoLb
  have HO := Lib.hid hown
  have HN := Lib.hid (World.news_of_block hx)
  clear hx
  obtain ⟨ao, cap, rfl, hcap⟩ : ∃ ao cap, v = .slice ao d.length cap ∧ d.length ≤ cap := by
    rcases hown.2 with ⟨hv, h0⟩ | ⟨g, cap, cur, hv, _, _, hle, _⟩
    · exact ⟨none, 0, by rw [hv, h0], by omega⟩
    · exact ⟨_, _, hv, hle⟩
  have h00 : (0 : Int) ≤ (d.length : Int) := by omega
  go_enter Tryd.func125, Tryd.ntmps125
  go_wp2_with (at_builtin; refine wpList_append_own _ rfl _ _ 40 rfl base 69 i0 (.agg #[.string ⟨#[]⟩, .string ⟨#[]⟩]) 2 32 Tryd.underlying40 hi hz0 hz1 hz2 rfl (by decide) _ _ _ rfl hown ⟨b1, 0, none⟩ 1 1 [.string t, .string y] rfl rfl HN.out (lenc_two t y) (by unfold maxLen; omega) (by omega) hbw ?_)
  all_goals
    intro v' w1 hown' hgrow _
    have hsl : Sl lenc w1 v' (d ++ [(t, y)]) := Sl.own lenc_len (by decide) (by rw [flat_snoc]; exact hown')
    have HSL := Lib.hid hsl
    have HB := Lib.hid ((Below.refl base w).grown hgrow hbw (fun j hj => (HO.out.lt j (by cases ao with | none => simp [Value.ownBlock] at hj | some x => exact hj)).1))
    clear hown hown' hgrow hsl
    go_wp2_with fail
    go_ret
    exact ⟨_, rfl, HSL.out, HB.out⟩
set_option maxHeartbeats 4000000 in
theorem ins_shift (g base cap i : Nat) (d : List Lb) (t y : ByteArray) (b1 : Nat) (w : World) (hown : w.ownsRow base 69 2 (.slice (some ⟨g, 0, none⟩) d.length cap) d.length (d.flatMap lenc)) (hl : d.length ≤ 1000000)
    (hx : w.heap[b1]? = some (.cells #[.string t, .string y] 69 (0, 0))) (hbw : base ≤ w.heap.size) (hne : b1 ≠ g) (hi1 : i < d.length) (hroom : d.length + 1 ≤ cap) :
    Calls Tryd.prog 125 #[.slice (some ⟨g, 0, none⟩) d.length cap, .int .i64 i, .slice (some ⟨b1, 0, none⟩) 1 1] w fun e w' => ∃ v', e = .returned v' ∧ Sl lenc w' v' (d.take i ++ (t, y) :: d.drop i) ∧ Below base w w' := by
  obtain ⟨i0, hi, hz0, hz1, hz2⟩ := info_parts Tryd.infoLb
  obtain ⟨cur, hbg, hg, hcap, hcur, hpre⟩ : ∃ cur : Array Value, base ≤ g ∧ w.heap[g]? = some (.cells cur 69 (0, 0)) ∧ cap ≤ maxLen ∧ cur.size = cap * 2 ∧ cur.toList.take (d.length * 2) = d.flatMap lenc := by
    rcases hown.2 with ⟨hv, h0⟩ | ⟨g', cap', cur, hv, h1, h2, h3, h4, h5, h6⟩
    · cases hv
    · injection hv with e1 e2 e3
      injection e1 with e1
      injection e1 with e1
      subst e1 e3
      exact ⟨cur, h1, h2, h4, h5, h6⟩
  unfold maxLen at hcap
  have h00 : (0 : Int) ≤ (i : Int) := by omega
  have hz2' : ¬ ((i : Int) = (d.length : Int)) := by omega
  have hz3 : ((i : Int) == (d.length : Int)) = false := by simpa using hz2'
  have hov : ∀ lb cb, (callFunc 132 #[.slice (some ⟨b1, 0, none⟩) 1 1, .slice (some ⟨g, (i + 1) * 2, none⟩) lb cb]).run Tryd.prog w = .ok (.value (.bool false)) w := fun lb cb => by
    rw [run_callFunc_extern Tryd.func132 (by kernel_rfl) (by kernel_rfl) (by kernel_rfl) (e := Extern.SlicesOverlaps.overlaps #[40, 40] #[4]) (by kernel_rfl),
      Lib.run_overlaps_apart w 40 4 69 Tryd.underlying40 2 Tryd.sizeLb' ⟨b1, 0, none⟩ ⟨g, (i + 1) * 2, none⟩ 1 1 lb cb hne 69 69 2 cur.size (by simp [World.shape?, hx]) (by simp [World.shape?, hg]) (by rw [hcur]; omega) (by simp [World.frozen?, hx]) (by simp [World.frozen?, hx])]
    rfl
  have hw1 : IntKind.i64.wrap ((i : Int) + 1) = (i : Int) + 1 := by rw [IntKind.wrap_i64]; omega
  have hb1 : (0 : Int) ≤ (i : Int) + 1 := by omega
  have htn : ((i : Int) + 1).toNat = i + 1 := by omega
  have hb2 : ¬ (cap = i + 1) := by omega
  have hb4 : ¬ (cap = i) := by omega
  have hb3 : (i : Int) ≤ (d.length : Int) + 1 := by omega
  have hb5 : (i : Int) + 1 ≤ (d.length : Int) + 1 := by omega
  have hb6 : (i : Int) ≤ (d.length : Int) := by omega
  have hb7 : (i : Int) + 1 ≤ ((d.length + 1 : Nat) : Int) := by omega
  obtain ⟨T, hT⟩ : ∃ T, T = (d.take i).flatMap lenc := ⟨_, rfl⟩
  obtain ⟨D, hD⟩ : ∃ D, D = (d.drop i).flatMap lenc := ⟨_, rfl⟩
  obtain ⟨R, hR⟩ : ∃ R, R = cur.toList.drop (d.length * 2) := ⟨_, rfl⟩
  have hcl : cur.toList = T ++ D ++ R := by
    rw [hT, hD, hR, ← List.flatMap_append, List.take_append_drop, ← hpre, List.take_append_drop]
  have hTl : T.length = i * 2 := by rw [hT, flat_length lenc_len, List.length_take, Nat.min_eq_left (by omega)]
  have hDl : D.length = (d.length - i) * 2 := by rw [hD, flat_length lenc_len, List.length_drop]
  have hRl : 2 ≤ R.length := by rw [hR, List.length_drop]; simp only [Array.length_toList]; omega
  have hcz : cur.size = i * 2 + (d.length - i) * 2 + R.length := by rw [← Array.length_toList, hcl, List.length_append, List.length_append, hTl, hDl]
  have hD1 : ∀ v ∈ D, v.oneCell' = true := by rw [hD]; exact oneCell_flat _
  have hmin : Nat.min (d.length + 1 - i) (d.length - i) = d.length - i := Nat.min_eq_right (by omega)
  have hmin1 : Nat.min 1 (d.length + 1 - i) = 1 := Nat.min_eq_left (by omega)
  have hcp1 : ∀ ty dc sc, (Builtin.copy_ #[40, 40] ty #[.slice (some ⟨g, (i + 1) * 2, none⟩) (d.length - i) dc, .slice (some ⟨g, i * 2, none⟩) (d.length + 1 - i) sc]).run Tryd.prog w.drew = .ok (goInt ((d.length - i : Nat) : Int)) (w.drew.setRow g ((T ++ D ++ R).take (i * 2 + 2) ++ D ++ (T ++ D ++ R).drop (i * 2 + 2 + D.length)).toArray) := fun ty dc sc => by
    have h := run_copy_rowK (P := Tryd.prog) w.drew 40 40 ty 69 2 g ((i + 1) * 2) (d.length - i) dc ⟨g, i * 2, none⟩ (d.length + 1 - i) sc cur 69 D Tryd.underlying40 (by rw [hi]; simp [hz1]) hg (by rw [hDl, hmin])
      (fun j v hj => by
        rw [Addr.add_lit, cell_of_row w.drew g (i * 2 + j) cur _ _ hg, ← Array.getElem?_toList, hcl, List.append_assoc, List.getElem?_append_right (by omega), hTl, List.getElem?_append_left (by have := (List.getElem?_eq_some_iff.1 hj).1; omega), Nat.add_sub_cancel_left]
        exact hj) (by omega) hD1
    rw [h, hcl, hmin, show (i + 1) * 2 = i * 2 + 2 by omega]
  obtain ⟨C1, hC1⟩ : ∃ C1, C1 = ((T ++ D ++ R).take (i * 2 + 2) ++ D ++ (T ++ D ++ R).drop (i * 2 + 2 + D.length)).toArray := ⟨_, rfl⟩
  rw [← hC1] at hcp1
  have hgd : w.drew.heap[g]? = some (.cells cur 69 (0, 0)) := hg
  have hg1 : (w.drew.setRow g C1).heap[g]? = some (.cells C1 69 (0, 0)) := setRow_heap w.drew g cur C1 _ _ hgd
  have hx1 : (w.drew.setRow g C1).heap[b1]? = some (.cells #[.string t, .string y] 69 (0, 0)) := by rw [setRow_other w.drew g b1 C1 (fun e => hne e)]; exact hx
  have hC1z : C1.size = cur.size := by
    rw [hC1, List.size_toArray, List.length_append, List.length_append, List.length_take, List.length_drop, List.length_append, List.length_append, hTl, hDl]
    omega
  have hcp2 : ∀ ty dc, (Builtin.copy_ #[40, 40] ty #[.slice (some ⟨g, i * 2, none⟩) (d.length + 1 - i) dc, .slice (some ⟨b1, 0, none⟩) 1 1]).run Tryd.prog (w.drew.setRow g C1) = .ok (goInt 1) ((w.drew.setRow g C1).setRow g (C1.toList.take (i * 2) ++ [Value.string t, Value.string y] ++ C1.toList.drop (i * 2 + 2)).toArray) := fun ty dc => by
    have h := run_copy_rowK (P := Tryd.prog) (w.drew.setRow g C1) 40 40 ty 69 2 g (i * 2) (d.length + 1 - i) dc ⟨b1, 0, none⟩ 1 1 C1 69 [.string t, .string y] Tryd.underlying40 (by rw [hi]; simp [hz1]) hg1 (by rw [hmin1]; rfl) (World.news_of_block hx1) (by rw [hC1z]; simp; omega) (lenc_two t y)
    rw [h, hmin1]
    rfl
  have hfin : C1.toList.take (i * 2) ++ [Value.string t, Value.string y] ++ C1.toList.drop (i * 2 + 2) = T ++ [Value.string t, Value.string y] ++ D ++ R.drop 2 := by
    rw [hC1]
    exact two_copies T D R [.string t, .string y] 0 (i * 2) hTl.symm rfl hRl
  obtain ⟨W1, hW1⟩ : ∃ W1, W1 = w.drew.setRow g C1 := ⟨_, rfl⟩
  obtain ⟨C2, hC2⟩ : ∃ C2, C2 = C1.toList.take (i * 2) ++ [Value.string t, Value.string y] ++ C1.toList.drop (i * 2 + 2) := ⟨_, rfl⟩
  rw [← hW1, ← hC2] at hcp2
  rw [← hW1] at hcp1
  rw [← hC2] at hfin
  have HSL := Lib.hid (show Sl lenc (W1.setRow g C2.toArray) (.slice (some ⟨g, 0, none⟩) (d.length + 1) cap) (d.take i ++ (t, y) :: d.drop i) from
    Sl.row (g := g) (t := 69) (fr := (0, 0)) (R := R.drop 2) (setRow_heap W1 g C1 C2.toArray _ _ (by rw [hW1]; exact hg1)) (by rw [List.toList_toArray, hfin, List.flatMap_append, List.flatMap_cons, ← hT, ← hD]; simp [lenc]) (by simp; omega) (by omega))
  have HBB := Lib.hid (show Below base w (W1.setRow g C2.toArray) by
    rw [hW1]
    exact below_setRow (below_setRow (below_drewN (Below.refl base w) 1) hbg C1) hbg C2.toArray)
  clear hcl hTl hDl hRl hcz hD1 hC1 hgd hg1 hx1 hC1z hfin hW1 hC2 hT hD hR hpre hcur hg hx hown
  go_enter Tryd.func125, Tryd.ntmps125
  go_wp2_with (simp only [hov])
  go_region_law (refine step_copy_run' rfl _ _ 40 40 rfl _ _ (by simp [Act.eval, Act.put]) (by simp [Act.eval, Act.put]) (hcp1 _ _ _) ?_)
  go_wp2_with (at_builtin; refine wpList_copy_run' _ rfl _ _ 40 40 rfl _ _ rfl rfl (hcp2 _ _) ?_)
  go_ret
  exact ⟨_, rfl, HSL.out, HBB.out⟩
end Go.Proofs.YtogjcaakfnfapaaDoor
namespace Go.Proofs.YtogjcaakfnfapaaDoor
open Go Go.RowKit
set_option linter.unusedVariables false
set_option linter.unusedSimpArgs false
set_option maxRecDepth 100000
theorem two_copies' (T D Z X : List Value) (i2 : Nat) (hi : i2 = T.length) (hX : X.length = 2) (hZ : 2 + D.length ≤ Z.length) :
    (((T ++ Z).take i2 ++ X ++ (T ++ Z).drop (i2 + 2)).take (i2 + 2) ++ D ++ ((T ++ Z).take i2 ++ X ++ (T ++ Z).drop (i2 + 2)).drop (i2 + 2 + D.length)) = T ++ X ++ D ++ (Z.drop 2).drop D.length := by
  subst hi
  have e1 : (T ++ Z).take T.length = T := List.take_left
  have e2 : (T ++ Z).drop (T.length + 2) = Z.drop 2 := by
    rw [List.drop_append, List.drop_of_length_le (by omega), List.nil_append]
    congr 1; omega
  have e3 : (T ++ X).length = T.length + 2 := by rw [List.length_append, hX]
  rw [e1, e2, ← e3, List.take_left, ← List.drop_drop, List.drop_left]
set_option maxHeartbeats 4000000 in
theorem ins_grow (g base cap i : Nat) (d : List Lb) (t y : ByteArray) (b1 : Nat) (w : World) (hown : w.ownsRow base 69 2 (.slice (some ⟨g, 0, none⟩) d.length cap) d.length (d.flatMap lenc)) (hl : d.length ≤ 1000000)
    (hx : w.heap[b1]? = some (.cells #[.string t, .string y] 69 (0, 0))) (hbw : base ≤ w.heap.size) (hi1 : i < d.length) (hroom : cap < d.length + 1) :
    Calls Tryd.prog 125 #[.slice (some ⟨g, 0, none⟩) d.length cap, .int .i64 i, .slice (some ⟨b1, 0, none⟩) 1 1] w fun e w' => ∃ v', e = .returned v' ∧ Sl lenc w' v' (d.take i ++ (t, y) :: d.drop i) ∧ Below base w w' := by
  obtain ⟨i0, hi, hz0, hz1, hz2⟩ := info_parts Tryd.infoLb
  obtain ⟨cur, hbg, hg, hle, hcur, hpre⟩ : ∃ cur : Array Value, base ≤ g ∧ w.heap[g]? = some (.cells cur 69 (0, 0)) ∧ d.length ≤ cap ∧ cur.size = cap * 2 ∧ cur.toList.take (d.length * 2) = d.flatMap lenc := by
    rcases hown.2 with ⟨hv, h0⟩ | ⟨g', cap', cur, hv, h1, h2, h3, h4, h5, h6⟩
    · cases hv
    · injection hv with e1 e2 e3
      injection e1 with e1
      injection e1 with e1
      subst e1 e3
      exact ⟨cur, h1, h2, h3, h5, h6⟩
  obtain rfl : cap = d.length := by omega
  obtain ⟨k, hk⟩ : ∃ k, d.length + 1 = i + k := ⟨d.length + 1 - i, by omega⟩
  have h00 : (0 : Int) ≤ (i : Int) := by omega
  have hz2' : ¬ ((i : Int) = (d.length : Int)) := by omega
  have hz3 : ((i : Int) == (d.length : Int)) = false := by simpa using hz2'
  have hb4 : ¬ (d.length = i) := by omega
  have hb6 : (i : Int) ≤ (d.length : Int) := by omega
  have hd1 : decide ((d.length : Int) < (d.length : Int) + 1) = true := decide_eq_true (by omega)
  obtain ⟨T, hT⟩ : ∃ T, T = (d.take i).flatMap lenc := ⟨_, rfl⟩
  obtain ⟨D, hD⟩ : ∃ D, D = (d.drop i).flatMap lenc := ⟨_, rfl⟩
  have hcl : cur.toList = T ++ D := by
    rw [hT, hD, ← List.flatMap_append, List.take_append_drop, ← hpre, List.take_of_length_le (by rw [Array.length_toList]; omega)]
  have hTl : T.length = i * 2 := by rw [hT, flat_length lenc_len, List.length_take, Nat.min_eq_left (by omega)]
  have hDl : D.length = (d.length - i) * 2 := by rw [hD, flat_length lenc_len, List.length_drop]
  have hD1 : ∀ v ∈ D, v.oneCell' = true := by rw [hD]; exact oneCell_flat _
  have hTc : ∀ j v, T[j]? = some v → w.drew.cell? ((⟨g, 0, none⟩ : Addr).add j) = some v := fun j v hj => by
    rw [Addr.add_lit, Nat.zero_add, cell_of_row w.drew g j cur _ _ hg, ← Array.getElem?_toList, hcl, List.getElem?_append_left (List.getElem?_eq_some_iff.1 hj).1]
    exact hj
  have hold : (Builtin.firstCells i0.size i (.slice (some ⟨g, 0, none⟩) i d.length)).run Tryd.prog w.drew = .ok T.toArray w.drew := by
    rw [hz1]
    exact run_firstCells_some w.drew 2 i ⟨g, 0, none⟩ i d.length T (by rw [hTl]) hTc
  obtain ⟨gc, hgc⟩ : ∃ gc, gc = grownCap w (i + k) d.length 69 := ⟨_, rfl⟩
  obtain ⟨Z, hZ⟩ : ∃ Z : List Value, Z = (Builtin.zeroCells (Value.agg #[.string ⟨#[]⟩, .string ⟨#[]⟩]).cells k ++ Builtin.zeroCells (Value.agg #[.string ⟨#[]⟩, .string ⟨#[]⟩]).cells (gc - (i + k))).toList := ⟨_, rfl⟩
  have hrun : ∀ ty, (Builtin.append_ #[40, 3] ty #[.slice (some ⟨g, 0, none⟩) i d.length, .int .i64 (k : Int)]).run Tryd.prog w = .ok (.slice (some ⟨w.heap.size, 0, none⟩) (i + k) gc) (w.drew.alloc (.cells (T ++ Z).toArray 69)) := fun ty => by
    rw [Lib.run_append_grow_zeros (P := Tryd.prog) w 40 3 ty 69 i0 _ .i64 .i64 Tryd.underlying40 Tryd.underlying3 hi hz0 (some ⟨g, 0, none⟩) i d.length T hold k (by omega) (by omega) (by omega) (by omega) (by rw [hz2]; omega) (by rw [hz2]; exact growslice_fits (by omega) (by omega))]
    rw [← hgc, hZ]
    congr 2
    simp
  have hgce : d.length + 1 ≤ gc := by rw [hgc, hk]; exact grownCap_ge _ _ _ _
  have hgcl : gc ≤ 9223372036854775807 := by
    rw [hgc]
    have hle' := grownCap_le_maxLen w (i + k) d.length 69 (by unfold maxLen; omega)
    unfold maxLen at hle'
    omega
  have hZl : 2 + D.length ≤ Z.length := by
    have h2 : (Value.agg #[.string ⟨#[]⟩, .string ⟨#[]⟩]).cells.size = 2 := rfl
    have h3 : Z.length = k * 2 + (gc - (i + k)) * 2 := by
      have h4 := size_zeroCells (Value.agg #[.string ⟨#[]⟩, .string ⟨#[]⟩]).cells k
      have h5 := size_zeroCells (Value.agg #[.string ⟨#[]⟩, .string ⟨#[]⟩]).cells (gc - (i + k))
      rw [h2] at h4 h5
      rw [hZ, Array.toList_append, List.length_append, Array.length_toList, Array.length_toList, h4, h5]
    rw [h3, hDl]
    omega
  obtain ⟨w2, hw2⟩ : ∃ w2, w2 = w.drew.alloc (.cells (T ++ Z).toArray 69) := ⟨_, rfl⟩
  rw [← hw2] at hrun
  obtain ⟨H, hH⟩ : ∃ H, H = w.heap.size := ⟨_, rfl⟩
  rw [← hH] at hrun
  have hgl : g < w.heap.size := (Array.getElem?_eq_some_iff.1 hg).1
  have hbl : b1 < w.heap.size := (Array.getElem?_eq_some_iff.1 hx).1
  have hbb2 : Below w.heap.size w w2 := by rw [hw2]; exact (below_drewN (Below.refl _ w) 1).alloc (by simp) _
  have hH2 : w2.heap[H]? = some (.cells (T ++ Z).toArray 69 (0, 0)) := by rw [hw2, hH]; exact heap_new w.drew _
  have hg2 : w2.heap[g]? = some (.cells cur 69 (0, 0)) := by rw [hbb2.block g hgl]; exact hg
  have hx2 : w2.heap[b1]? = some (.cells #[.string t, .string y] 69 (0, 0)) := by rw [hbb2.block b1 hbl]; exact hx
  have hmin : Nat.min (d.length - i) (d.length - i) = d.length - i := Nat.min_self _
  have hmin1 : Nat.min 1 k = 1 := Nat.min_eq_left (by omega)
  obtain ⟨C1, hC1⟩ : ∃ C1 : Array Value, C1 = ((T ++ Z).take (i * 2) ++ [Value.string t, Value.string y] ++ (T ++ Z).drop (i * 2 + 2)).toArray := ⟨_, rfl⟩
  have hcp1 : ∀ ty dc, (Builtin.copy_ #[40, 40] ty #[.slice (some ⟨H, i * 2, none⟩) k dc, .slice (some ⟨b1, 0, none⟩) 1 1]).run Tryd.prog w2 = .ok (goInt 1) (w2.setRow H C1) := fun ty dc => by
    have h := run_copy_rowK (P := Tryd.prog) w2 40 40 ty 69 2 H (i * 2) k dc ⟨b1, 0, none⟩ 1 1 (T ++ Z).toArray 69 [.string t, .string y] Tryd.underlying40 (by rw [hi]; simp [hz1]) hH2 (by rw [hmin1]; rfl) (World.news_of_block hx2) (by simp; omega) (lenc_two t y)
    rw [h, hmin1, hC1]
    rfl
  have hC1z : C1.size = (T ++ Z).length := by
    rw [hC1, List.size_toArray, List.length_append, List.length_append, List.length_take, List.length_drop, List.length_append, hTl]
    simp only [List.length_cons, List.length_nil]
    omega
  have hH3 : (w2.setRow H C1).heap[H]? = some (.cells C1 69 (0, 0)) := setRow_heap w2 H _ C1 _ _ hH2
  have hg3 : (w2.setRow H C1).heap[g]? = some (.cells cur 69 (0, 0)) := by rw [setRow_other w2 H g C1 (by omega)]; exact hg2
  obtain ⟨C2, hC2⟩ : ∃ C2 : List Value, C2 = C1.toList.take (i * 2 + 2) ++ D ++ C1.toList.drop (i * 2 + 2 + D.length) := ⟨_, rfl⟩
  obtain ⟨w3, hw3⟩ : ∃ w3, w3 = w2.setRow H C1 := ⟨_, rfl⟩
  rw [← hw3] at hcp1 hH3 hg3
  have hcp2 : ∀ ty dc sc, (Builtin.copy_ #[40, 40] ty #[.slice (some ⟨H, (i + 1) * 2, none⟩) (d.length - i) dc, .slice (some ⟨g, i * 2, none⟩) (d.length - i) sc]).run Tryd.prog w3.drew = .ok (goInt ((d.length - i : Nat) : Int)) (w3.drew.setRow H C2.toArray) := fun ty dc sc => by
    have h := run_copy_rowK (P := Tryd.prog) w3.drew 40 40 ty 69 2 H ((i + 1) * 2) (d.length - i) dc ⟨g, i * 2, none⟩ (d.length - i) sc C1 69 D Tryd.underlying40 (by rw [hi]; simp [hz1]) hH3 (by rw [hDl, hmin])
      (fun j v hj => by
        rw [Addr.add_lit, cell_of_row w3.drew g (i * 2 + j) cur _ _ hg3, ← Array.getElem?_toList, hcl, List.getElem?_append_right (by omega), hTl, Nat.add_sub_cancel_left]
        exact hj) (by rw [hC1z, List.length_append, hTl]; omega) hD1
    rw [h, hmin, hC2, show (i + 1) * 2 = i * 2 + 2 by omega]
  have hfin : C2 = T ++ [Value.string t, Value.string y] ++ D ++ (Z.drop 2).drop D.length := by
    rw [hC2, hC1]
    exact two_copies' T D Z [Value.string t, Value.string y] (i * 2) hTl.symm rfl hZl
  have HSL := Lib.hid (show Sl lenc (w3.drew.setRow H C2.toArray) (.slice (some ⟨H, 0, none⟩) (i + k) gc) (d.take i ++ (t, y) :: d.drop i) from
    Sl.row (g := H) (t := 69) (fr := (0, 0)) (R := (Z.drop 2).drop D.length) (setRow_heap w3.drew H C1 C2.toArray _ _ hH3) (by rw [List.toList_toArray, hfin, List.flatMap_append, List.flatMap_cons, ← hT, ← hD]; simp [lenc]) (by simp; omega) (by omega))
  have HBB := Lib.hid (show Below base w (w3.drew.setRow H C2.toArray) by
    rw [hw3]
    exact below_setRow (below_drewN (below_setRow (Below.trans (Below.refl base w) (hbb2.mono (by omega))) (by omega) C1) 1) (by omega) C2.toArray)
  have hw1 : IntKind.i64.wrap ((i : Int) + 1) = (i : Int) + 1 := by rw [IntKind.wrap_i64]; omega
  have hb1 : (0 : Int) ≤ (i : Int) + 1 := by omega
  have htn : ((i : Int) + 1).toNat = i + 1 := by omega
  have hb2 : ¬ (gc = i + 1) := by omega
  have hb3 : ¬ (gc = i) := by omega
  have hb5 : (i : Int) + 1 ≤ ((i + k : Nat) : Int) := by omega
  have hb7 : (i : Int) + 1 ≤ (i : Int) + (k : Int) := by omega
  have hb8 : (i : Int) ≤ (i : Int) + (k : Int) := by omega
  have hkk : (d.length : Int) + 1 - (i : Int) = (k : Int) := by omega
  have hk1 : i + k - (i + 1) = d.length - i := by omega
  have hk2 : i + k - i = k := by omega
  clear hcl hTl hDl hD1 hTc hold hgc hZ hgce hgcl hZl hw2 hH hgl hbl hbb2 hH2 hg2 hx2 hmin hmin1 hC1 hC1z hH3 hg3 hC2 hw3 hfin hT hD hpre hcur hg hx hown hroom hle
  have HK := Lib.hid hk
  clear hk
  go_enter Tryd.func125, Tryd.ntmps125
  go_wp2_with (at_builtin; refine Lib.wpList_append_run _ rfl _ _ _ _ rfl _ _ rfl rfl _ _ (hrun _) ?_)
  go_region_law (refine step_copy_run' rfl _ _ 40 40 rfl _ _ (by simp [Act.eval, Act.put]) (by simp [Act.eval, Act.put]) (hcp2 _ _ _) ?_)
  go_wp2_with fail
  go_ret
  exact ⟨_, rfl, HSL.out, HBB.out⟩
end Go.Proofs.YtogjcaakfnfapaaDoor
