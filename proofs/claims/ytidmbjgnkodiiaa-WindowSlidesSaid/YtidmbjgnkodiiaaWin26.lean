/- window.Slide: the walk (printed by gen_win26.py). -/
import Derived.Test.YtidmbjgnkodiiaaWin25
namespace Go.Proofs.Ytidmbjgnkodiiaa
open Go Go.RowKit
set_option linter.unusedVariables false
set_option linter.unusedSimpArgs false
set_option maxRecDepth 100000
theorem tcol_mk {g : Nat} {x0 x1 : Value} {d : Array Bool} {w : World} (h0 : d.getD 11 false = true ∨ w.cell? ⟨g, 0, none⟩ = some x0) (h1 : d.getD 13 false = true ∨ w.cell? ⟨g, 1, none⟩ = some x1) : TCol g x0 x1 d w :=
  ⟨fun h => by rcases h0 with h0 | h0; (rw [h0] at h; cases h); exact h0, fun h => by rcases h1 with h1 | h1; (rw [h1] at h; cases h); exact h1⟩
theorem RS.kept {w0 W W' : World} {B g nA nH : Nat} {VA VH x0 x1 : Value} {xA xH : List Value} (r : RS w0 B g W VA VH nA nH xA xH x0 x1) (hb : Below W.heap.size W W') : RS w0 B g W' VA VH nA nH xA xH x0 x1 := by
  have hg : W.grownBy W' none := ⟨hb.os, hb.tape, hb.output, hb.size, fun b hk _ => hb.block b hk⟩
  have hn : ∀ V : Value, V.ownBlock = none ∨ V.ownBlock ≠ none := fun V => by cases V.ownBlock <;> simp
  exact ⟨r.b.trans (hb.mono r.size), r.hg, r.a.kept hg (hn _), r.h.kept hg (hn _), by rw [hb.block g (Array.getElem?_eq_some_iff.1 r.blk).1]; exact r.blk⟩
theorem own_slice {w : World} {base : Nat} {e : TypeId} {size : Nat} {v : Value} {n : Nat} {xs : List Value} (h : w.ownsRow base e size v n xs) : ∃ a m c, v = .slice a m c := by
  rcases h.2 with ⟨rfl, -⟩ | ⟨g, cap, cur, rfl, -⟩ <;> exact ⟨_, _, _, rfl⟩
theorem flat_f (xs : List Nat) : xs.flatMap fenc1 = xs.map (Value.float .f64) := by
  induction xs with
  | nil => rfl
  | cons x xs ih => rw [List.flatMap_cons, List.map_cons, ih]; rfl
theorem flat_b (xs : List Bool) : xs.flatMap benc1 = xs.map Value.bool := by
  induction xs with
  | nil => rfl
  | cons x xs ih => rw [List.flatMap_cons, List.map_cons, ih]; rfl
/-- At the label. -/
def SlJ (fn len off s e st : Int) (v : Value) (l : List (Int × Nat)) (w : World) (a : Act) (W : World) : Prop :=
  ∃ (k : Nat) (va ha : Value) (g : Nat) (w1 : World) (u : Nat → Value), a = { tmps := #[.int .i64 fn, v, .agg #[.int .i64 s, .int .i64 e, .int .i64 st], .int .i64 len, .int .i64 off, u 5, u 6, .pointer (some ⟨w.heap.size, 0, none⟩), u 8, u 9, .pointer (some ⟨w.heap.size + 1, 0, none⟩), .int .i64 0, u 12, .pointer (some ⟨g, 0, none⟩), .int .i64 k, u 15, u 16, u 17, u 18, u 19, u 20, u 21, u 22, u 23, u 24, u 25, u 26, u 27, u 28, u 29, u 30, u 31, u 32, u 33, u 34, u 35, u 36, u 37, u 38, u 39, u 40, u 41, u 42, u 43, u 44, u 45, u 46, u 47, u 48, u 49, u 50, u 51, u 52, u 53, u 54, u 55, u 56, u 57, u 58, u 59, u 60, u 61, u 62, u 63, u 64, u 65, u 66, u 67, u 68, u 69, u 70, u 71, u 72, u 73, u 74, u 75, u 76, u 77, u 78, u 79, u 80], defers := [] } ∧ k ≤ (Gr.pointsV s e st).toNat ∧ Below w.heap.size w w1 ∧
    w1.heap[w.heap.size]? = some (.cells #[.int .i64 s, .int .i64 e, .int .i64 st] 24 (0, 0)) ∧ w1.heap[w.heap.size + 1]? = some (.cells #[.slice none 0 0, .slice none 0 0] 30 (0, 0)) ∧
    RS w1 w1.heap.size g W va ha k k ((colV fn len off s e st l k).map (Value.float .f64)) ((colH fn len off s e st l k).map Value.bool) va ha
theorem SlJ.mk {fn len off s e st : Int} {v : Value} {l : List (Int × Nat)} {w W w1 : World} {A : Array Value} {g k : Nat} {va ha : Value} (hA : A = #[.int .i64 fn, v, .agg #[.int .i64 s, .int .i64 e, .int .i64 st], .int .i64 len, .int .i64 off, A.getD 5 undef, A.getD 6 undef, .pointer (some ⟨w.heap.size, 0, none⟩), A.getD 8 undef, A.getD 9 undef, .pointer (some ⟨w.heap.size + 1, 0, none⟩), .int .i64 0, A.getD 12 undef, .pointer (some ⟨g, 0, none⟩), .int .i64 k, A.getD 15 undef, A.getD 16 undef, A.getD 17 undef, A.getD 18 undef, A.getD 19 undef, A.getD 20 undef, A.getD 21 undef, A.getD 22 undef, A.getD 23 undef, A.getD 24 undef, A.getD 25 undef, A.getD 26 undef, A.getD 27 undef, A.getD 28 undef, A.getD 29 undef, A.getD 30 undef, A.getD 31 undef, A.getD 32 undef, A.getD 33 undef, A.getD 34 undef, A.getD 35 undef, A.getD 36 undef, A.getD 37 undef, A.getD 38 undef, A.getD 39 undef, A.getD 40 undef, A.getD 41 undef, A.getD 42 undef, A.getD 43 undef, A.getD 44 undef, A.getD 45 undef, A.getD 46 undef, A.getD 47 undef, A.getD 48 undef, A.getD 49 undef, A.getD 50 undef, A.getD 51 undef, A.getD 52 undef, A.getD 53 undef, A.getD 54 undef, A.getD 55 undef, A.getD 56 undef, A.getD 57 undef, A.getD 58 undef, A.getD 59 undef, A.getD 60 undef, A.getD 61 undef, A.getD 62 undef, A.getD 63 undef, A.getD 64 undef, A.getD 65 undef, A.getD 66 undef, A.getD 67 undef, A.getD 68 undef, A.getD 69 undef, A.getD 70 undef, A.getD 71 undef, A.getD 72 undef, A.getD 73 undef, A.getD 74 undef, A.getD 75 undef, A.getD 76 undef, A.getD 77 undef, A.getD 78 undef, A.getD 79 undef, A.getD 80 undef]) (hk : k ≤ (Gr.pointsV s e st).toNat) (hb : Below w.heap.size w w1)
    (h7 : w1.heap[w.heap.size]? = some (.cells #[.int .i64 s, .int .i64 e, .int .i64 st] 24 (0, 0))) (h10 : w1.heap[w.heap.size + 1]? = some (.cells #[.slice none 0 0, .slice none 0 0] 30 (0, 0)))
    (r : RS w1 w1.heap.size g W va ha k k ((colV fn len off s e st l k).map (Value.float .f64)) ((colH fn len off s e st l k).map Value.bool) va ha) : SlJ fn len off s e st v l w { tmps := A, defers := [] } W :=
  ⟨k, va, ha, g, w1, fun i => A.getD i undef, congrArg (fun t => ({ tmps := t, defers := [] } : Act)) hA, hk, hb, h7, h10, r⟩
set_option maxHeartbeats 2000000 in
theorem slide_any (fn len off s e st : Int) (v : Value) (l : List (Int × Nat)) (w : World) (h : Sl tenc w v l) (hl : l.length ≤ 1000000) (hs : Gr.i64B s) (he : Gr.i64B e) (hst : Gr.i64B st) (hfn : Gr.i64B fn) (hln : Gr.i64B len) (hof : Gr.i64B off) :
    Calls Try.prog 6 #[.int .i64 fn, v, .agg #[.int .i64 s, .int .i64 e, .int .i64 st], .int .i64 len, .int .i64 off] w fun x w' => SlR fn len off s e st l w x w' := by
  have HCK := Lib.hid (fun w => Gr.check_any s e st w hs he hst)
  have HAT := Lib.hid (fun i w (hi : Gr.i64B i) => Gr.at_any s e st i w hs he hst hi)
  have HNM := Lib.hid (fun w => name_any fn w)
  have HSL := Lib.hid h
  obtain ⟨iF, hiF, hF0, hF1, hF2⟩ := info_parts Try.infoFl
  obtain ⟨iB, hiB, hB0, hB1, hB2⟩ := info_parts Try.infoBl
  obtain ⟨a, cap, rfl, hlen, -⟩ := h.split tenc_len
  obtain ⟨n, hn⟩ : ∃ n, n = l.length := ⟨_, rfl⟩
  rw [← hn] at HSL hlen ⊢
  have HHN := Lib.hid hn
  have HLL := Lib.hid hl
  clear h hn hl
  obtain ⟨hfn1, hfn2⟩ := hfn
  obtain ⟨hln1, hln2⟩ := hln
  obtain ⟨hof1, hof2⟩ := hof
  by_cases hck : Gr.checkV s e st = 0
  · have HCK0 := Lib.hid hck
    rw [hck] at HCK
    clear hck
    by_cases hok : argsOk fn len off
    · obtain ⟨⟨f1, f2⟩, ⟨l1, l2⟩, o1, o2⟩ := id hok
      have HOK := Lib.hid hok
      have hnf := nameOf_full fn f1 f2
      have hnf2 : ¬ (nameOf fn).toList = [] := by simpa using hnf
      have hl1 : ¬ len < 1 := by omega
      have hl2 : ¬ 1125899906842624 < len := by omega
      have ho1 : ¬ off < -1125899906842624 := by omega
      have ho2 : ¬ 1125899906842624 < off := by omega
      have b1 : decide (len < 1) = false := decide_eq_false (by omega)
      have b2 : decide (1125899906842624 < len) = false := decide_eq_false (by omega)
      have b3 : decide (off < -1125899906842624) = false := decide_eq_false (by omega)
      have b4 : decide (1125899906842624 < off) = false := decide_eq_false (by omega)
      clear hok
      go_enter Try.func6, Try.ntmps6
      go_wp2_with fail
      refine wp_jump_fall 0 (SlJ fn len off s e st (.slice a n cap) l w) (fun a _ => (Gr.pointsV s e st).toNat - (intOf (a.tmps.getD 14 undef)).toNat) rfl ?_ ?_
      · intro hfall
        have HF := Lib.hid hfall
        clear hfall
        go_wp2_with fail
        refine (HCK.out _).mono ?_
        rintro x w1 ⟨rfl, hb1⟩
        have hb0 : Below w.heap.size w ((w.alloc (.cells #[.int .i64 s, .int .i64 e, .int .i64 st] 24)).alloc (.cells #[.slice none 0 0, .slice none 0 0] 30)) := ((Below.refl _ _).alloc (Nat.le_refl _) _).alloc (by simp) _
        have hB1 : Below w.heap.size w w1 := hb0.trans (hb1.mono (by simp; omega))
        have hG7 : w1.heap[w.heap.size]? = some (.cells #[.int .i64 s, .int .i64 e, .int .i64 st] 24 (0, 0)) := by
          rw [hb1.block _ (by simp; omega), Below.heap_alloc _ _ _ (by simp)]; exact heap_new _ _
        have hG10 : w1.heap[w.heap.size + 1]? = some (.cells #[.slice none 0 0, .slice none 0 0] 30 (0, 0)) := by
          rw [hb1.block _ (by simp)]
          have := heap_new (w.alloc (.cells #[.int .i64 s, .int .i64 e, .int .i64 st] 24)) (.cells #[.slice none 0 0, .slice none 0 0] 30)
          simpa using this
        clear hb0 hb1
        go_wp2_with fail
        refine (HNM.out _).mono ?_
        rintro x w2 ⟨rfl, hb2⟩
        have HB1 := Lib.hid (hB1.trans (hb2.mono hB1.size))
        have HG7 := Lib.hid ((hb2.block _ (Array.getElem?_eq_some_iff.1 hG7).1).trans hG7)
        have HG10 := Lib.hid ((hb2.block _ (Array.getElem?_eq_some_iff.1 hG10).1).trans hG10)
        clear hB1 hG7 hG10 hb2
        go_wp2_with fail
        go_step3
        rename_i hK
        refine hK _ _ (HF.out _ _ (SlJ.mk (k := 0) (va := .slice none 0 0) (ha := .slice none 0 0) (g := w2.heap.size) (w1 := w2) ?_ (Nat.zero_le _) HB1.out HG7.out HG10.out ?_))
        · rfl
        · exact ⟨(Below.refl _ _).alloc (Nat.le_refl _) _, Nat.le_refl _, World.ownsRow_nil _ _ _ _, World.ownsRow_nil _ _ _ _, heap_new _ _⟩
      · rintro a W ⟨k, va, ha, g, w1, u, rfl, hk, hb1, hG7, hG10, r⟩
        have HB1 := Lib.hid hb1
        have HG7 := Lib.hid hG7
        have HG10 := Lib.hid hG10
        have p0 : W.cell? ⟨w.heap.size, 0, none⟩ = some (.int .i64 s) := cell_below r.b (Nat.le_refl _) (by rw [cell_of_row w1 w.heap.size 0 _ _ _ hG7]; rfl)
        have p1 : W.cell? ⟨w.heap.size, 1, none⟩ = some (.int .i64 e) := cell_below r.b (Nat.le_refl _) (by rw [cell_of_row w1 w.heap.size 1 _ _ _ hG7]; rfl)
        have p2 : W.cell? ⟨w.heap.size, 2, none⟩ = some (.int .i64 st) := cell_below r.b (Nat.le_refl _) (by rw [cell_of_row w1 w.heap.size 2 _ _ _ hG7]; rfl)
        have hN : (Gr.pointsV s e st).toNat ≤ 4096 ∧ 0 ≤ Gr.pointsV s e st := by
          have := (Gr.checkV_ok HCK0.out)
          unfold Gr.pointsV
          rw [if_pos HCK0.out]
          omega
        have HRR := Lib.hid r
        clear hb1 hG7 hG10 r
        have HATk := Lib.hid (HAT.out k W ⟨by omega, by omega⟩)
        by_cases hlt : k < (Gr.pointsV s e st).toNat
        · have hfit := Gr.at_fit (i := (k : Int)) (by omega) (by omega : (k : Int) < Gr.pointsV s e st)
          have hatv : Gr.atV s e st k = (s + (k : Int) * st, true) := by unfold Gr.atV; rw [if_neg (by omega)]
          have hend := Gr.checkV_ok HCK0.out
          obtain ⟨t, ht⟩ : ∃ t, t = s + (k : Int) * st := ⟨_, rfl⟩
          rw [hatv, ← ht] at HATk
          have htb : -1125899906842624 ≤ t ∧ t ≤ 1125899906842624 := by omega
          have HFN := Lib.hid (fun w' (hb : Below w.heap.size w w') => fn_any fn (.slice a n cap) l (t - off - len) (t - off) w' (HSL.out.below hb (Nat.le_refl _)) HLL.out (by omega) (by omega))
          have hfv : FV fn len off s e st l k = fnR fn (t - off - len) (t - off) l := by unfold FV; rw [hatv, ← ht]
          obtain ⟨x, hx⟩ : ∃ x, x = (fnR fn (t - off - len) (t - off) l).1 := ⟨_, rfl⟩
          obtain ⟨q, hq⟩ : ∃ q, q = (fnR fn (t - off - len) (t - off) l).2 := ⟨_, rfl⟩
          rw [← hx, ← hq] at HFN
          obtain ⟨xsA, hxA⟩ : ∃ xs, xs = (colV fn len off s e st l k).map (Value.float .f64) := ⟨_, rfl⟩
          obtain ⟨xsH, hxH⟩ : ∃ xs, xs = (colH fn len off s e st l k).map Value.bool := ⟨_, rfl⟩
          have HXA := Lib.hid (show (colV fn len off s e st l (k + 1)).map (Value.float .f64) = xsA ++ [.float .f64 x] by rw [colV_succ, List.map_append, hxA, hfv, hx]; rfl)
          have HXH := Lib.hid (show (colH fn len off s e st l (k + 1)).map Value.bool = xsH ++ [.bool q] by rw [colH_succ, List.map_append, hxH, hfv, hq]; rfl)
          rw [← hxA, ← hxH] at HRR
          have hw1 : IntKind.i64.wrap (t - off) = t - off := by rw [IntKind.wrap_i64] <;> omega
          have hw2 : IntKind.i64.wrap (t - off - len) = t - off - len := by rw [IntKind.wrap_i64] <;> omega
          clear hfit hatv hend ht hfv hx hq hxA hxH
          go_wp2_with fail
          refine HATk.out.mono ?_
          rintro y w2 ⟨rfl, hb2⟩
          have r2 := HRR.out.kept hb2
          have HB2 := Lib.hid (HB1.out.trans (r2.b.mono HB1.out.size))
          clear hb2
          go_wp2_with fail
          refine (HFN.out _ HB2.out).mono ?_
          rintro y w3 ⟨rfl, hb3⟩
          have r3 := r2.kept hb3
          clear hb3 r2
          go_wp2_with fail
          have mixed : Try.prog.follows .mixedOrders = true := by kernel_rfl
          refine wp_region_T (TCol g va ha) mixed ?_
          have r4 : RS w1 w1.heap.size g w3.drew va ha k k xsA xsH va ha := ⟨r3.b.drew, r3.hg, r3.a, r3.h, r3.blk⟩
          clear r3
          generalize w3.drew = W at r4 ⊢
          refine anyT_take (i := 0) (oi := ?oi0) (v := ?vv0) ?hh0 (by kernel_rfl) (by kernel_rfl) (by kernel_rfl) ?qq0 (tcol_ins 0 (by decide) (by decide)) (Or.inl ⟨?wd0, ?yy0⟩) (tcol_mk (.inr r4.c0) (.inr r4.c1)) ?rest0
          case hh0 => simp only [List.getElem?_toArray, List.getElem?_cons_succ, List.getElem?_cons_zero]; try rfl
          case qq0 => exact fun _ _ _ h => h
          case wd0 => rfl
          case yy0 => (intro w hSw; go_simp; try with_reducible rfl)
          try simp only [Act.put, List.setIfInBounds_toArray, List.set_cons_zero, List.set_cons_succ]
          refine anyT_take (i := 1) (oi := ?oi1) (v := ?vv1) ?hh1 (by kernel_rfl) (by kernel_rfl) (by kernel_rfl) ?qq1 (tcol_ins 1 (by decide) (by decide)) (Or.inl ⟨?wd1, ?yy1⟩) (tcol_mk (.inr r4.c0) (.inr r4.c1)) ?rest1
          case hh1 => simp only [List.getElem?_toArray, List.getElem?_cons_succ, List.getElem?_cons_zero]; try rfl
          case qq1 => exact fun _ _ _ h => h
          case wd1 => rfl
          case yy1 => (intro w hSw; obtain ⟨d, hcd, hrd, hTd⟩ := hSw; have hcell := hTd.1 (till_not hcd (k := 4) (by kernel_rfl) (by kernel_rfl) hrd); clear hTd hcd hrd; go_simp; try with_reducible rfl)
          try simp only [Act.put, List.setIfInBounds_toArray, List.set_cons_zero, List.set_cons_succ]
          refine anyT_take (i := 2) (oi := ?oi2) (v := ?vv2) ?hh2 (by kernel_rfl) (by kernel_rfl) (by kernel_rfl) ?qq2 (tcol_ins 2 (by decide) (by decide)) (Or.inl ⟨?wd2, ?yy2⟩) (tcol_mk (.inr r4.c0) (.inr r4.c1)) ?rest2
          case hh2 => simp only [List.getElem?_toArray, List.getElem?_cons_succ, List.getElem?_cons_zero]; try rfl
          case qq2 => exact fun _ _ _ h => h
          case wd2 => rfl
          case yy2 => (intro w hSw; go_simp; try with_reducible rfl)
          try simp only [Act.put, List.setIfInBounds_toArray, List.set_cons_zero, List.set_cons_succ]
          refine anyT_take (i := 5) (oi := ?oi5) (v := ?vv5) ?hh5 (by kernel_rfl) (by kernel_rfl) (by kernel_rfl) ?qq5 (tcol_ins 5 (by decide) (by decide)) (Or.inl ⟨?wd5, ?yy5⟩) (tcol_mk (.inr r4.c0) (.inr r4.c1)) ?rest5
          case hh5 => simp only [List.getElem?_toArray, List.getElem?_cons_succ, List.getElem?_cons_zero]; try rfl
          case qq5 => exact fun _ _ _ h => h
          case wd5 => rfl
          case yy5 => (intro w hSw; go_simp; try with_reducible rfl)
          try simp only [Act.put, List.setIfInBounds_toArray, List.set_cons_zero, List.set_cons_succ]
          refine anyT_take (i := 6) (oi := ?oi6) (v := ?vv6) ?hh6 (by kernel_rfl) (by kernel_rfl) (by kernel_rfl) ?qq6 (tcol_ins 6 (by decide) (by decide)) (Or.inl ⟨?wd6, ?yy6⟩) (tcol_mk (.inr r4.c0) (.inr r4.c1)) ?rest6
          case hh6 => simp only [List.getElem?_toArray, List.getElem?_cons_succ, List.getElem?_cons_zero]; try rfl
          case qq6 => exact fun _ _ _ h => h
          case wd6 => rfl
          case yy6 => (intro w hSw; obtain ⟨d, hcd, hrd, hTd⟩ := hSw; have hcell := hTd.2 (till_not hcd (k := 9) (by kernel_rfl) (by kernel_rfl) hrd); clear hTd hcd hrd; go_simp; try with_reducible rfl)
          try simp only [Act.put, List.setIfInBounds_toArray, List.set_cons_zero, List.set_cons_succ]
          refine anyT_take (i := 7) (oi := ?oi7) (v := ?vv7) ?hh7 (by kernel_rfl) (by kernel_rfl) (by kernel_rfl) ?qq7 (tcol_ins 7 (by decide) (by decide)) (Or.inl ⟨?wd7, ?yy7⟩) (tcol_mk (.inr r4.c0) (.inr r4.c1)) ?rest7
          case hh7 => simp only [List.getElem?_toArray, List.getElem?_cons_succ, List.getElem?_cons_zero]; try rfl
          case qq7 => exact fun _ _ _ h => h
          case wd7 => rfl
          case yy7 => (intro w hSw; go_simp; try with_reducible rfl)
          try simp only [Act.put, List.setIfInBounds_toArray, List.set_cons_zero, List.set_cons_succ]
          have r := r4
          clear r4
          refine anyT_two (o := ?No1_1) (p := ?No2_1) (by kernel_rfl : _ = [3, 8]) ?Nh1_1 ?Nh2_1 ?Nm1_1 ?Nm2_1
          case Nh1_1 => simp only [List.getElem?_toArray, List.getElem?_cons_succ, List.getElem?_cons_zero]; try rfl
          case Nh2_1 => simp only [List.getElem?_toArray, List.getElem?_cons_succ, List.getElem?_cons_zero]; try rfl
          case Nm1_1 =>
            intro K hK
            go_simp
            have r9 := r.alloc (.cells #[.float .f64 x] 38)
            have nA9 := NB.new W 38 (.float .f64 x)
            refine hK.out _ _ (tcol_mk (.inr r9.c0) (.inr r9.c1)) (fun hHeld => ?_)
            clear hHeld hK K r
            obtain ⟨bA, hbA⟩ : ∃ b, b = W.heap.size := ⟨_, rfl⟩
            rw [← hbA] at nA9 ⊢
            clear hbA
            generalize W.alloc (.cells #[.float .f64 x] 38) = W9 at r9 nA9 ⊢
            try simp only [Act.put, List.setIfInBounds_toArray, List.set_cons_zero, List.set_cons_succ]
            obtain ⟨W, hW⟩ : ∃ W, W = W9 := ⟨_, rfl⟩
            rw [← hW] at r9 nA9 ⊢
            clear hW
            have r := r9
            have nA := nA9
            clear r9 nA9
            refine anyT_two (o := ?No1_2) (p := ?No2_2) (by kernel_rfl : _ = [4, 8]) ?Nh1_2 ?Nh2_2 ?Nm1_2 ?Nm2_2
            case Nh1_2 => simp only [List.getElem?_toArray, List.getElem?_cons_succ, List.getElem?_cons_zero]; try rfl
            case Nh2_2 => simp only [List.getElem?_toArray, List.getElem?_cons_succ, List.getElem?_cons_zero]; try rfl
            case Nm1_2 =>
              intro K hK
              refine step_append_at rfl (.tmp 67) (.tmp 69) _ rfl w1.heap.size 38 iF _ 1 8 Try.underlying27 hiF hF0 hF1 hF2 rfl (by decide) va k xsA rfl r.a ⟨bA, 0, none⟩ 1 1 [.float .f64 x] rfl rfl (World.news_of_block nA) (by intro u hu; simp at hu; subst hu; rfl) (by unfold maxLen; omega) (by omega) r.size ?_
              intro VA W9 hown' hgrow hat
              obtain ⟨aA1, mA1, cA1, rfl⟩ := own_slice hown'
              have r9 := r.appA hown' hgrow
              refine hK.out _ _ (tcol_mk (.inr r9.c0) (.inr r9.c1)) (fun hHeld => ?_)
              clear hHeld hK K r nA hown' hgrow hat
              try simp only [Act.put, List.setIfInBounds_toArray, List.set_cons_zero, List.set_cons_succ]
              obtain ⟨W, hW⟩ : ∃ W, W = W9 := ⟨_, rfl⟩
              rw [← hW] at r9 ⊢
              clear hW
              have r := r9
              clear r9
              refine anyT_take (i := 10) (oi := ?oi10_3) (v := ?vv10_3) ?hh10_3 (by kernel_rfl) (by kernel_rfl) (by kernel_rfl) ?qq10_3 (tcol_ins 10 (by decide) (by decide)) (Or.inl ⟨?wd10_3, ?yy10_3⟩) (tcol_mk (.inr r.c0) (.inr r.c1)) ?rest10_3
              case hh10_3 => simp only [List.getElem?_toArray, List.getElem?_cons_succ, List.getElem?_cons_zero]; try rfl
              case qq10_3 => exact fun _ _ _ h => h
              case wd10_3 => rfl
              case yy10_3 => (intro w hSw; go_simp; try with_reducible rfl)
              try simp only [Act.put, List.setIfInBounds_toArray, List.set_cons_zero, List.set_cons_succ]
              refine anyT_one (o := ?No1_3) (by kernel_rfl : _ = [8]) ?Nh1_3 ?Nm1_3
              case Nh1_3 => simp only [List.getElem?_toArray, List.getElem?_cons_succ, List.getElem?_cons_zero]; try rfl
              case Nm1_3 =>
                intro K hK
                go_simp
                have r9 := r.alloc (.cells #[.bool q] 4)
                have nH9 := NB.new W 4 (.bool q)
                refine hK.out _ _ (tcol_mk (.inr r9.c0) (.inr r9.c1)) (fun hHeld => ?_)
                clear hHeld hK K r
                obtain ⟨bH, hbH⟩ : ∃ b, b = W.heap.size := ⟨_, rfl⟩
                rw [← hbH] at nH9 ⊢
                clear hbH
                generalize W.alloc (.cells #[.bool q] 4) = W9 at r9 nH9 ⊢
                try simp only [Act.put, List.setIfInBounds_toArray, List.set_cons_zero, List.set_cons_succ]
                obtain ⟨W, hW⟩ : ∃ W, W = W9 := ⟨_, rfl⟩
                rw [← hW] at r9 nH9 ⊢
                clear hW
                have r := r9
                have nH := nH9
                clear r9 nH9
                refine anyT_one (o := ?No1_4) (by kernel_rfl : _ = [9]) ?Nh1_4 ?Nm1_4
                case Nh1_4 => simp only [List.getElem?_toArray, List.getElem?_cons_succ, List.getElem?_cons_zero]; try rfl
                case Nm1_4 =>
                  intro K hK
                  refine step_append_at rfl (.tmp 72) (.tmp 74) _ rfl w1.heap.size 4 iB _ 1 1 Try.underlying28 hiB hB0 hB1 hB2 rfl (by decide) ha k xsH rfl r.h ⟨bH, 0, none⟩ 1 1 [.bool q] rfl rfl (World.news_of_block nH) (by intro u hu; simp at hu; subst hu; rfl) (by unfold maxLen; omega) (by omega) r.size ?_
                  intro VH W9 hown' hgrow hat
                  obtain ⟨aH1, mH1, cH1, rfl⟩ := own_slice hown'
                  have r9 := r.appH hown' hgrow
                  refine hK.out _ _ (tcol_mk (.inr r9.c0) (.inr r9.c1)) (fun hHeld => ?_)
                  clear hHeld hK K r nH hown' hgrow hat
                  try simp only [Act.put, List.setIfInBounds_toArray, List.set_cons_zero, List.set_cons_succ]
                  obtain ⟨W, hW⟩ : ∃ W, W = W9 := ⟨_, rfl⟩
                  rw [← hW] at r9 ⊢
                  clear hW
                  have r := r9
                  clear r9
                  refine anyT_one (o := ?No1_5) (by kernel_rfl : _ = [11]) ?Nh1_5 ?Nm1_5
                  case Nh1_5 => simp only [List.getElem?_toArray, List.getElem?_cons_succ, List.getElem?_cons_zero]; try rfl
                  case Nm1_5 =>
                    intro K hK
                    have cc0 := r.c0
                    have cc1 := r.c1
                    have zz0 := r.z0
                    have zz1 := r.z1
                    go_simp
                    have r9 := r.set0 (.slice aA1 mA1 cA1)
                    refine hK.out _ _ (tcol_mk (.inl (by kernel_rfl)) (.inr r9.c1)) (fun hHeld => ?_)
                    clear hHeld hK K r cc0 cc1 zz0 zz1
                    generalize W.setCell ⟨g, 0, none⟩ (.slice aA1 mA1 cA1) = W9 at r9 ⊢
                    try simp only [Act.put, List.setIfInBounds_toArray, List.set_cons_zero, List.set_cons_succ]
                    obtain ⟨W, hW⟩ : ∃ W, W = W9 := ⟨_, rfl⟩
                    rw [← hW] at r9 ⊢
                    clear hW
                    have r := r9
                    clear r9
                    refine anyT_take (i := 12) (oi := ?oi12_5b) (v := ?vv12_5b) ?hh12_5b (by kernel_rfl) (by kernel_rfl) (by kernel_rfl) ?qq12_5b (tcol_ins 12 (by decide) (by decide)) (Or.inl ⟨?wd12_5b, ?yy12_5b⟩) (tcol_mk (.inl (by kernel_rfl)) (.inr r.c1)) ?rest12_5b
                    case hh12_5b => simp only [List.getElem?_toArray, List.getElem?_cons_succ, List.getElem?_cons_zero]; try rfl
                    case qq12_5b => exact fun _ _ _ h => h
                    case wd12_5b => rfl
                    case yy12_5b => (intro w hSw; go_simp; try with_reducible rfl)
                    try simp only [Act.put, List.setIfInBounds_toArray, List.set_cons_zero, List.set_cons_succ]
                    refine anyT_one (o := ?No1_5b) (by kernel_rfl : _ = [13]) ?Nh1_5b ?Nm1_5b
                    case Nh1_5b => simp only [List.getElem?_toArray, List.getElem?_cons_succ, List.getElem?_cons_zero]; try rfl
                    case Nm1_5b =>
                      intro K hK
                      have cc0 := r.c0
                      have cc1 := r.c1
                      have zz0 := r.z0
                      have zz1 := r.z1
                      go_simp
                      have r9 := r.set1 (.slice aH1 mH1 cH1)
                      refine hK.out _ _ (tcol_mk (.inl (by kernel_rfl)) (.inl (by kernel_rfl))) (fun hHeld => ?_)
                      clear hHeld hK K r cc0 cc1 zz0 zz1
                      generalize W.setCell ⟨g, 1, none⟩ (.slice aH1 mH1 cH1) = W9 at r9 ⊢
                      try simp only [Act.put, List.setIfInBounds_toArray, List.set_cons_zero, List.set_cons_succ]
                      obtain ⟨W, hW⟩ : ∃ W, W = W9 := ⟨_, rfl⟩
                      rw [← hW] at r9 ⊢
                      clear hW
                      have r := r9
                      clear r9
                      refine anyT_done (by kernel_rfl) ?_ _
                      rw [← HXA.out, ← HXH.out] at r
                      go_wp2_with fail
                      go_step3
                      refine ⟨rfl, SlJ.mk (k := k + 1) (va := .slice aA1 mA1 cA1) (ha := .slice aH1 mH1 cH1) (g := g) (w1 := w1) ?_ (by omega) HB1.out HG7.out HG10.out r, ?_⟩
                      · rfl
                      · show (Gr.pointsV s e st).toNat - ((k : Int) + 1).toNat < (Gr.pointsV s e st).toNat - (k : Int).toNat
                        omega
            case Nm2_2 =>
              intro K hK
              go_simp
              have r9 := r.alloc (.cells #[.bool q] 4)
              have nH9 := NB.new W 4 (.bool q)
              have nA9 := nA.alloc (.cells #[.bool q] 4)
              refine hK.out _ _ (tcol_mk (.inr r9.c0) (.inr r9.c1)) (fun hHeld => ?_)
              clear hHeld hK K r nA
              obtain ⟨bH, hbH⟩ : ∃ b, b = W.heap.size := ⟨_, rfl⟩
              rw [← hbH] at nH9 ⊢
              clear hbH
              generalize W.alloc (.cells #[.bool q] 4) = W9 at r9 nA9 nH9 ⊢
              try simp only [Act.put, List.setIfInBounds_toArray, List.set_cons_zero, List.set_cons_succ]
              obtain ⟨W, hW⟩ : ∃ W, W = W9 := ⟨_, rfl⟩
              rw [← hW] at r9 nH9 nA9 ⊢
              clear hW
              have r := r9
              have nH := nH9
              have nA := nA9
              clear r9 nH9 nA9
              refine anyT_one (o := ?No1_6) (by kernel_rfl : _ = [4]) ?Nh1_6 ?Nm1_6
              case Nh1_6 => simp only [List.getElem?_toArray, List.getElem?_cons_succ, List.getElem?_cons_zero]; try rfl
              case Nm1_6 =>
                intro K hK
                refine step_append_at rfl (.tmp 67) (.tmp 69) _ rfl w1.heap.size 38 iF _ 1 8 Try.underlying27 hiF hF0 hF1 hF2 rfl (by decide) va k xsA rfl r.a ⟨bA, 0, none⟩ 1 1 [.float .f64 x] rfl rfl (World.news_of_block nA) (by intro u hu; simp at hu; subst hu; rfl) (by unfold maxLen; omega) (by omega) r.size ?_
                intro VA W9 hown' hgrow hat
                obtain ⟨aA1, mA1, cA1, rfl⟩ := own_slice hown'
                have r9 := r.appA hown' hgrow
                have nH9 := NB.appA r nH hgrow
                refine hK.out _ _ (tcol_mk (.inr r9.c0) (.inr r9.c1)) (fun hHeld => ?_)
                clear hHeld hK K r nA hown' hgrow hat nH
                try simp only [Act.put, List.setIfInBounds_toArray, List.set_cons_zero, List.set_cons_succ]
                obtain ⟨W, hW⟩ : ∃ W, W = W9 := ⟨_, rfl⟩
                rw [← hW] at r9 nH9 ⊢
                clear hW
                have r := r9
                have nH := nH9
                clear r9 nH9
                refine anyT_take (i := 10) (oi := ?oi10_7) (v := ?vv10_7) ?hh10_7 (by kernel_rfl) (by kernel_rfl) (by kernel_rfl) ?qq10_7 (tcol_ins 10 (by decide) (by decide)) (Or.inl ⟨?wd10_7, ?yy10_7⟩) (tcol_mk (.inr r.c0) (.inr r.c1)) ?rest10_7
                case hh10_7 => simp only [List.getElem?_toArray, List.getElem?_cons_succ, List.getElem?_cons_zero]; try rfl
                case qq10_7 => exact fun _ _ _ h => h
                case wd10_7 => rfl
                case yy10_7 => (intro w hSw; go_simp; try with_reducible rfl)
                try simp only [Act.put, List.setIfInBounds_toArray, List.set_cons_zero, List.set_cons_succ]
                refine anyT_one (o := ?No1_7) (by kernel_rfl : _ = [9]) ?Nh1_7 ?Nm1_7
                case Nh1_7 => simp only [List.getElem?_toArray, List.getElem?_cons_succ, List.getElem?_cons_zero]; try rfl
                case Nm1_7 =>
                  intro K hK
                  refine step_append_at rfl (.tmp 72) (.tmp 74) _ rfl w1.heap.size 4 iB _ 1 1 Try.underlying28 hiB hB0 hB1 hB2 rfl (by decide) ha k xsH rfl r.h ⟨bH, 0, none⟩ 1 1 [.bool q] rfl rfl (World.news_of_block nH) (by intro u hu; simp at hu; subst hu; rfl) (by unfold maxLen; omega) (by omega) r.size ?_
                  intro VH W9 hown' hgrow hat
                  obtain ⟨aH1, mH1, cH1, rfl⟩ := own_slice hown'
                  have r9 := r.appH hown' hgrow
                  refine hK.out _ _ (tcol_mk (.inr r9.c0) (.inr r9.c1)) (fun hHeld => ?_)
                  clear hHeld hK K r nH hown' hgrow hat
                  try simp only [Act.put, List.setIfInBounds_toArray, List.set_cons_zero, List.set_cons_succ]
                  obtain ⟨W, hW⟩ : ∃ W, W = W9 := ⟨_, rfl⟩
                  rw [← hW] at r9 ⊢
                  clear hW
                  have r := r9
                  clear r9
                  refine anyT_one (o := ?No1_8) (by kernel_rfl : _ = [11]) ?Nh1_8 ?Nm1_8
                  case Nh1_8 => simp only [List.getElem?_toArray, List.getElem?_cons_succ, List.getElem?_cons_zero]; try rfl
                  case Nm1_8 =>
                    intro K hK
                    have cc0 := r.c0
                    have cc1 := r.c1
                    have zz0 := r.z0
                    have zz1 := r.z1
                    go_simp
                    have r9 := r.set0 (.slice aA1 mA1 cA1)
                    refine hK.out _ _ (tcol_mk (.inl (by kernel_rfl)) (.inr r9.c1)) (fun hHeld => ?_)
                    clear hHeld hK K r cc0 cc1 zz0 zz1
                    generalize W.setCell ⟨g, 0, none⟩ (.slice aA1 mA1 cA1) = W9 at r9 ⊢
                    try simp only [Act.put, List.setIfInBounds_toArray, List.set_cons_zero, List.set_cons_succ]
                    obtain ⟨W, hW⟩ : ∃ W, W = W9 := ⟨_, rfl⟩
                    rw [← hW] at r9 ⊢
                    clear hW
                    have r := r9
                    clear r9
                    refine anyT_take (i := 12) (oi := ?oi12_8b) (v := ?vv12_8b) ?hh12_8b (by kernel_rfl) (by kernel_rfl) (by kernel_rfl) ?qq12_8b (tcol_ins 12 (by decide) (by decide)) (Or.inl ⟨?wd12_8b, ?yy12_8b⟩) (tcol_mk (.inl (by kernel_rfl)) (.inr r.c1)) ?rest12_8b
                    case hh12_8b => simp only [List.getElem?_toArray, List.getElem?_cons_succ, List.getElem?_cons_zero]; try rfl
                    case qq12_8b => exact fun _ _ _ h => h
                    case wd12_8b => rfl
                    case yy12_8b => (intro w hSw; go_simp; try with_reducible rfl)
                    try simp only [Act.put, List.setIfInBounds_toArray, List.set_cons_zero, List.set_cons_succ]
                    refine anyT_one (o := ?No1_8b) (by kernel_rfl : _ = [13]) ?Nh1_8b ?Nm1_8b
                    case Nh1_8b => simp only [List.getElem?_toArray, List.getElem?_cons_succ, List.getElem?_cons_zero]; try rfl
                    case Nm1_8b =>
                      intro K hK
                      have cc0 := r.c0
                      have cc1 := r.c1
                      have zz0 := r.z0
                      have zz1 := r.z1
                      go_simp
                      have r9 := r.set1 (.slice aH1 mH1 cH1)
                      refine hK.out _ _ (tcol_mk (.inl (by kernel_rfl)) (.inl (by kernel_rfl))) (fun hHeld => ?_)
                      clear hHeld hK K r cc0 cc1 zz0 zz1
                      generalize W.setCell ⟨g, 1, none⟩ (.slice aH1 mH1 cH1) = W9 at r9 ⊢
                      try simp only [Act.put, List.setIfInBounds_toArray, List.set_cons_zero, List.set_cons_succ]
                      obtain ⟨W, hW⟩ : ∃ W, W = W9 := ⟨_, rfl⟩
                      rw [← hW] at r9 ⊢
                      clear hW
                      have r := r9
                      clear r9
                      refine anyT_done (by kernel_rfl) ?_ _
                      rw [← HXA.out, ← HXH.out] at r
                      go_wp2_with fail
                      go_step3
                      refine ⟨rfl, SlJ.mk (k := k + 1) (va := .slice aA1 mA1 cA1) (ha := .slice aH1 mH1 cH1) (g := g) (w1 := w1) ?_ (by omega) HB1.out HG7.out HG10.out r, ?_⟩
                      · rfl
                      · show (Gr.pointsV s e st).toNat - ((k : Int) + 1).toNat < (Gr.pointsV s e st).toNat - (k : Int).toNat
                        omega
          case Nm2_1 =>
            intro K hK
            go_simp
            have r9 := r.alloc (.cells #[.bool q] 4)
            have nH9 := NB.new W 4 (.bool q)
            refine hK.out _ _ (tcol_mk (.inr r9.c0) (.inr r9.c1)) (fun hHeld => ?_)
            clear hHeld hK K r
            obtain ⟨bH, hbH⟩ : ∃ b, b = W.heap.size := ⟨_, rfl⟩
            rw [← hbH] at nH9 ⊢
            clear hbH
            generalize W.alloc (.cells #[.bool q] 4) = W9 at r9 nH9 ⊢
            try simp only [Act.put, List.setIfInBounds_toArray, List.set_cons_zero, List.set_cons_succ]
            obtain ⟨W, hW⟩ : ∃ W, W = W9 := ⟨_, rfl⟩
            rw [← hW] at r9 nH9 ⊢
            clear hW
            have r := r9
            have nH := nH9
            clear r9 nH9
            refine anyT_one (o := ?No1_9) (by kernel_rfl : _ = [3]) ?Nh1_9 ?Nm1_9
            case Nh1_9 => simp only [List.getElem?_toArray, List.getElem?_cons_succ, List.getElem?_cons_zero]; try rfl
            case Nm1_9 =>
              intro K hK
              go_simp
              have r9 := r.alloc (.cells #[.float .f64 x] 38)
              have nA9 := NB.new W 38 (.float .f64 x)
              have nH9 := nH.alloc (.cells #[.float .f64 x] 38)
              refine hK.out _ _ (tcol_mk (.inr r9.c0) (.inr r9.c1)) (fun hHeld => ?_)
              clear hHeld hK K r nH
              obtain ⟨bA, hbA⟩ : ∃ b, b = W.heap.size := ⟨_, rfl⟩
              rw [← hbA] at nA9 ⊢
              clear hbA
              generalize W.alloc (.cells #[.float .f64 x] 38) = W9 at r9 nA9 nH9 ⊢
              try simp only [Act.put, List.setIfInBounds_toArray, List.set_cons_zero, List.set_cons_succ]
              obtain ⟨W, hW⟩ : ∃ W, W = W9 := ⟨_, rfl⟩
              rw [← hW] at r9 nA9 nH9 ⊢
              clear hW
              have r := r9
              have nA := nA9
              have nH := nH9
              clear r9 nA9 nH9
              refine anyT_one (o := ?No1_10) (by kernel_rfl : _ = [4]) ?Nh1_10 ?Nm1_10
              case Nh1_10 => simp only [List.getElem?_toArray, List.getElem?_cons_succ, List.getElem?_cons_zero]; try rfl
              case Nm1_10 =>
                intro K hK
                refine step_append_at rfl (.tmp 67) (.tmp 69) _ rfl w1.heap.size 38 iF _ 1 8 Try.underlying27 hiF hF0 hF1 hF2 rfl (by decide) va k xsA rfl r.a ⟨bA, 0, none⟩ 1 1 [.float .f64 x] rfl rfl (World.news_of_block nA) (by intro u hu; simp at hu; subst hu; rfl) (by unfold maxLen; omega) (by omega) r.size ?_
                intro VA W9 hown' hgrow hat
                obtain ⟨aA1, mA1, cA1, rfl⟩ := own_slice hown'
                have r9 := r.appA hown' hgrow
                have nH9 := NB.appA r nH hgrow
                refine hK.out _ _ (tcol_mk (.inr r9.c0) (.inr r9.c1)) (fun hHeld => ?_)
                clear hHeld hK K r nA hown' hgrow hat nH
                try simp only [Act.put, List.setIfInBounds_toArray, List.set_cons_zero, List.set_cons_succ]
                obtain ⟨W, hW⟩ : ∃ W, W = W9 := ⟨_, rfl⟩
                rw [← hW] at r9 nH9 ⊢
                clear hW
                have r := r9
                have nH := nH9
                clear r9 nH9
                refine anyT_take (i := 10) (oi := ?oi10_11) (v := ?vv10_11) ?hh10_11 (by kernel_rfl) (by kernel_rfl) (by kernel_rfl) ?qq10_11 (tcol_ins 10 (by decide) (by decide)) (Or.inl ⟨?wd10_11, ?yy10_11⟩) (tcol_mk (.inr r.c0) (.inr r.c1)) ?rest10_11
                case hh10_11 => simp only [List.getElem?_toArray, List.getElem?_cons_succ, List.getElem?_cons_zero]; try rfl
                case qq10_11 => exact fun _ _ _ h => h
                case wd10_11 => rfl
                case yy10_11 => (intro w hSw; go_simp; try with_reducible rfl)
                try simp only [Act.put, List.setIfInBounds_toArray, List.set_cons_zero, List.set_cons_succ]
                refine anyT_one (o := ?No1_11) (by kernel_rfl : _ = [9]) ?Nh1_11 ?Nm1_11
                case Nh1_11 => simp only [List.getElem?_toArray, List.getElem?_cons_succ, List.getElem?_cons_zero]; try rfl
                case Nm1_11 =>
                  intro K hK
                  refine step_append_at rfl (.tmp 72) (.tmp 74) _ rfl w1.heap.size 4 iB _ 1 1 Try.underlying28 hiB hB0 hB1 hB2 rfl (by decide) ha k xsH rfl r.h ⟨bH, 0, none⟩ 1 1 [.bool q] rfl rfl (World.news_of_block nH) (by intro u hu; simp at hu; subst hu; rfl) (by unfold maxLen; omega) (by omega) r.size ?_
                  intro VH W9 hown' hgrow hat
                  obtain ⟨aH1, mH1, cH1, rfl⟩ := own_slice hown'
                  have r9 := r.appH hown' hgrow
                  refine hK.out _ _ (tcol_mk (.inr r9.c0) (.inr r9.c1)) (fun hHeld => ?_)
                  clear hHeld hK K r nH hown' hgrow hat
                  try simp only [Act.put, List.setIfInBounds_toArray, List.set_cons_zero, List.set_cons_succ]
                  obtain ⟨W, hW⟩ : ∃ W, W = W9 := ⟨_, rfl⟩
                  rw [← hW] at r9 ⊢
                  clear hW
                  have r := r9
                  clear r9
                  refine anyT_one (o := ?No1_12) (by kernel_rfl : _ = [11]) ?Nh1_12 ?Nm1_12
                  case Nh1_12 => simp only [List.getElem?_toArray, List.getElem?_cons_succ, List.getElem?_cons_zero]; try rfl
                  case Nm1_12 =>
                    intro K hK
                    have cc0 := r.c0
                    have cc1 := r.c1
                    have zz0 := r.z0
                    have zz1 := r.z1
                    go_simp
                    have r9 := r.set0 (.slice aA1 mA1 cA1)
                    refine hK.out _ _ (tcol_mk (.inl (by kernel_rfl)) (.inr r9.c1)) (fun hHeld => ?_)
                    clear hHeld hK K r cc0 cc1 zz0 zz1
                    generalize W.setCell ⟨g, 0, none⟩ (.slice aA1 mA1 cA1) = W9 at r9 ⊢
                    try simp only [Act.put, List.setIfInBounds_toArray, List.set_cons_zero, List.set_cons_succ]
                    obtain ⟨W, hW⟩ : ∃ W, W = W9 := ⟨_, rfl⟩
                    rw [← hW] at r9 ⊢
                    clear hW
                    have r := r9
                    clear r9
                    refine anyT_take (i := 12) (oi := ?oi12_12b) (v := ?vv12_12b) ?hh12_12b (by kernel_rfl) (by kernel_rfl) (by kernel_rfl) ?qq12_12b (tcol_ins 12 (by decide) (by decide)) (Or.inl ⟨?wd12_12b, ?yy12_12b⟩) (tcol_mk (.inl (by kernel_rfl)) (.inr r.c1)) ?rest12_12b
                    case hh12_12b => simp only [List.getElem?_toArray, List.getElem?_cons_succ, List.getElem?_cons_zero]; try rfl
                    case qq12_12b => exact fun _ _ _ h => h
                    case wd12_12b => rfl
                    case yy12_12b => (intro w hSw; go_simp; try with_reducible rfl)
                    try simp only [Act.put, List.setIfInBounds_toArray, List.set_cons_zero, List.set_cons_succ]
                    refine anyT_one (o := ?No1_12b) (by kernel_rfl : _ = [13]) ?Nh1_12b ?Nm1_12b
                    case Nh1_12b => simp only [List.getElem?_toArray, List.getElem?_cons_succ, List.getElem?_cons_zero]; try rfl
                    case Nm1_12b =>
                      intro K hK
                      have cc0 := r.c0
                      have cc1 := r.c1
                      have zz0 := r.z0
                      have zz1 := r.z1
                      go_simp
                      have r9 := r.set1 (.slice aH1 mH1 cH1)
                      refine hK.out _ _ (tcol_mk (.inl (by kernel_rfl)) (.inl (by kernel_rfl))) (fun hHeld => ?_)
                      clear hHeld hK K r cc0 cc1 zz0 zz1
                      generalize W.setCell ⟨g, 1, none⟩ (.slice aH1 mH1 cH1) = W9 at r9 ⊢
                      try simp only [Act.put, List.setIfInBounds_toArray, List.set_cons_zero, List.set_cons_succ]
                      obtain ⟨W, hW⟩ : ∃ W, W = W9 := ⟨_, rfl⟩
                      rw [← hW] at r9 ⊢
                      clear hW
                      have r := r9
                      clear r9
                      refine anyT_done (by kernel_rfl) ?_ _
                      rw [← HXA.out, ← HXH.out] at r
                      go_wp2_with fail
                      go_step3
                      refine ⟨rfl, SlJ.mk (k := k + 1) (va := .slice aA1 mA1 cA1) (ha := .slice aH1 mH1 cH1) (g := g) (w1 := w1) ?_ (by omega) HB1.out HG7.out HG10.out r, ?_⟩
                      · rfl
                      · show (Gr.pointsV s e st).toNat - ((k : Int) + 1).toNat < (Gr.pointsV s e st).toNat - (k : Int).toNat
                        omega
        · have hatv : Gr.atV s e st k = (0, false) := by unfold Gr.atV; rw [if_pos (.inr (by omega))]
          have HKN := Lib.hid (show (Gr.pointsV s e st).toNat = k by omega)
          rw [hatv] at HATk
          obtain ⟨NN, hNN⟩ : ∃ NN, NN = (Gr.pointsV s e st).toNat := ⟨_, rfl⟩
          have r0 := HRR.out
          obtain ⟨aA1, mA1, cA1, rfl⟩ := own_slice r0.a
          obtain ⟨aH1, mH1, cH1, rfl⟩ := own_slice r0.h
          clear hatv hlt hk hN hNN
          go_wp2_with fail
          refine HATk.out.mono ?_
          rintro y w2 ⟨rfl, hb2⟩
          have r2 := r0.kept hb2
          have hG10 : w2.heap[w.heap.size + 1]? = some (.cells #[.slice none 0 0, .slice none 0 0] 30 (0, 0)) := (r2.b.block _ (Array.getElem?_eq_some_iff.1 HG10.out).1).trans HG10.out
          have hlt10 : w.heap.size + 1 < w1.heap.size := (Array.getElem?_eq_some_iff.1 HG10.out).1
          have cc0 := r2.c0
          have cc1 := r2.c1
          have d0 : w2.cell? ⟨w.heap.size + 1, 0, none⟩ = some (.slice none 0 0) := by rw [cell_of_row w2 (w.heap.size + 1) 0 _ _ _ hG10]; rfl
          have d1 : w2.cell? ⟨w.heap.size + 1, 1, none⟩ = some (.slice none 0 0) := by rw [cell_of_row w2 (w.heap.size + 1) 1 _ _ _ hG10]; rfl
          have e0 : w2.frozen? ⟨w.heap.size + 1, 0, none⟩ = false := by simp [World.frozen?, hG10]
          have e1 : w2.frozen? ⟨w.heap.size + 1, 1, none⟩ = false := by simp [World.frozen?, hG10]
          have HR2 := Lib.hid r2
          have HW2 := Lib.hid (HB1.out.trans (r2.b.mono HB1.out.size))
          have hk1 := (set_grown w2 (w.heap.size + 1) 0 (.slice aA1 mA1 cA1))
          have hk2 := (set_grown (w2.setCell ⟨w.heap.size + 1, 0, none⟩ (.slice aA1 mA1 cA1)) (w.heap.size + 1) 1 (.slice aH1 mH1 cH1))
          have hoA : ∀ (V : Value) (e : TypeId) (n : Nat) (xs : List Value), w2.ownsRow w1.heap.size e 1 V n xs → ((w2.setCell ⟨w.heap.size + 1, 0, none⟩ (.slice aA1 mA1 cA1)).setCell ⟨w.heap.size + 1, 1, none⟩ (.slice aH1 mH1 cH1)).ownsRow w1.heap.size e 1 V n xs := fun V e n xs h => by
            have hne : V.ownBlock = none ∨ V.ownBlock ≠ some (w.heap.size + 1) := by
              refine .inr fun he => ?_
              have := (h.lt _ he).1
              omega
            exact (h.kept hk1 hne).kept hk2 hne
          have s0 : ((w2.setCell ⟨w.heap.size + 1, 0, none⟩ (.slice aA1 mA1 cA1)).setCell ⟨w.heap.size + 1, 1, none⟩ (.slice aH1 mH1 cH1)).cell? ⟨w.heap.size + 1, 0, none⟩ = some (.slice aA1 mA1 cA1) := by simp [go_sem, d0, d1]
          have s1 : ((w2.setCell ⟨w.heap.size + 1, 0, none⟩ (.slice aA1 mA1 cA1)).setCell ⟨w.heap.size + 1, 1, none⟩ (.slice aH1 mH1 cH1)).cell? ⟨w.heap.size + 1, 1, none⟩ = some (.slice aH1 mH1 cH1) := by simp [go_sem, d0, d1]
          have HOA := Lib.hid (hoA _ _ _ _ r2.a)
          have HOH := Lib.hid (hoA _ _ _ _ r2.h)
          have HFB := Lib.hid (show Below w.heap.size w ((w2.setCell ⟨w.heap.size + 1, 0, none⟩ (.slice aA1 mA1 cA1)).setCell ⟨w.heap.size + 1, 1, none⟩ (.slice aH1 mH1 cH1)) from (HW2.out.setCell (p := ⟨w.heap.size + 1, 0, none⟩) (Nat.le_succ _) _).setCell (p := ⟨w.heap.size + 1, 1, none⟩) (Nat.le_succ _) _)
          have HS0 := Lib.hid s0
          have HS1 := Lib.hid s1
          clear hb2 r2 r0 hG10 hk1 hk2 hoA s0 s1
          go_wp2_with fail
          simp only [Exit.jump]
          refine bodyPost_ret (results_cell (t := 30) rfl _ _ _ _ rfl (loadCol _ _ _ _ HS0.out HS1.out)) rfl ?_
          refine ⟨HFB.out, .inr (.inr ⟨HCK0.out, HOK.out, _, _, rfl, ?_⟩)⟩
          rw [HKN.out]
          exact ⟨Sl.own (fun _ => rfl) (by decide) (by rw [flat_f]; exact HOA.out), Sl.own (fun _ => rfl) (by decide) (by rw [flat_b]; exact HOH.out)⟩
    · have hfive : ¬ (1 ≤ fn ∧ fn ≤ 14) ∨ ((1 ≤ fn ∧ fn ≤ 14) ∧ len < 1) ∨ ((1 ≤ fn ∧ fn ≤ 14) ∧ ¬ len < 1 ∧ 1125899906842624 < len) ∨ ((1 ≤ fn ∧ fn ≤ 14) ∧ ¬ len < 1 ∧ ¬ 1125899906842624 < len ∧ off < -1125899906842624) ∨ ((1 ≤ fn ∧ fn ≤ 14) ∧ ¬ len < 1 ∧ ¬ 1125899906842624 < len ∧ ¬ off < -1125899906842624 ∧ 1125899906842624 < off) := by
        unfold argsOk at hok
        omega
      have HNOK := Lib.hid hok
      clear hok
      rcases hfive with h1 | ⟨h1, h2⟩ | ⟨h1, h2, h3⟩ | ⟨h1, h2, h3, h4⟩ | ⟨h1, h2, h3, h4, h5⟩
      case' inl =>
        have hnn := nameOf_none fn h1
        rw [hnn] at HNM
        clear hnn
      case' inr.inl =>
        have hnf := nameOf_full fn h1.1 h1.2
        have hnf2 : ¬ (nameOf fn).toList = [] := by simpa using hnf
        have b1 : decide (len < 1) = true := decide_eq_true h2
      case' inr.inr.inl =>
        have hnf := nameOf_full fn h1.1 h1.2
        have hnf2 : ¬ (nameOf fn).toList = [] := by simpa using hnf
        have b1 : decide (len < 1) = false := decide_eq_false h2
        have b2 : decide (1125899906842624 < len) = true := decide_eq_true h3
      case' inr.inr.inr.inl =>
        have hnf := nameOf_full fn h1.1 h1.2
        have hnf2 : ¬ (nameOf fn).toList = [] := by simpa using hnf
        have b1 : decide (len < 1) = false := decide_eq_false h2
        have b2 : decide (1125899906842624 < len) = false := decide_eq_false h3
        have b3 : decide (off < -1125899906842624) = true := decide_eq_true h4
      case' inr.inr.inr.inr =>
        have hnf := nameOf_full fn h1.1 h1.2
        have hnf2 : ¬ (nameOf fn).toList = [] := by simpa using hnf
        have b1 : decide (len < 1) = false := decide_eq_false h2
        have b2 : decide (1125899906842624 < len) = false := decide_eq_false h3
        have b3 : decide (off < -1125899906842624) = false := decide_eq_false h4
        have b4 : decide (1125899906842624 < off) = true := decide_eq_true h5
      all_goals
        go_enter Try.func6, Try.ntmps6
        go_wp2_with fail
        refine wp_jump_fall 0 (fun _ _ => False) (fun _ _ => 0) rfl (fun _ => ?_) (fun _ _ hF => hF.elim)
        go_wp2_with fail
        refine (HCK.out _).mono ?_
        rintro x w1 ⟨rfl, hb1⟩
        have hb0 : Below w.heap.size w ((w.alloc (.cells #[.int .i64 s, .int .i64 e, .int .i64 st] 24)).alloc (.cells #[.slice none 0 0, .slice none 0 0] 30)) := ((Below.refl _ _).alloc (Nat.le_refl _) _).alloc (by simp) _
        have hB1 : Below w.heap.size w w1 := hb0.trans (hb1.mono (by simp; omega))
        have hG0 : w1.heap[w.heap.size + 1]? = some (.cells #[.slice none 0 0, .slice none 0 0] 30 (0, 0)) := by
          rw [hb1.block _ (by simp)]
          have := heap_new (w.alloc (.cells #[.int .i64 s, .int .i64 e, .int .i64 st] 24)) (.cells #[.slice none 0 0, .slice none 0 0] 30)
          simpa using this
        clear hb0 hb1
        go_wp2_with fail
        refine (HNM.out _).mono ?_
        rintro x w2 ⟨rfl, hb2⟩
        have HBX := Lib.hid (hB1.trans (hb2.mono hB1.size))
        have hG10 : w2.heap[w.heap.size + 1]? = some (.cells #[.slice none 0 0, .slice none 0 0] 30 (0, 0)) := ((hb2.block _ (Array.getElem?_eq_some_iff.1 hG0).1).trans hG0)
        have d0 : w2.cell? ⟨w.heap.size + 1, 0, none⟩ = some (.slice none 0 0) := by rw [cell_of_row w2 (w.heap.size + 1) 0 _ _ _ hG10]; rfl
        have d1 : w2.cell? ⟨w.heap.size + 1, 1, none⟩ = some (.slice none 0 0) := by rw [cell_of_row w2 (w.heap.size + 1) 1 _ _ _ hG10]; rfl
        have e0 : w2.frozen? ⟨w.heap.size + 1, 0, none⟩ = false := by simp [World.frozen?, hG10]
        have e1 : w2.frozen? ⟨w.heap.size + 1, 1, none⟩ = false := by simp [World.frozen?, hG10]
        have HS0 := Lib.hid (show ((w2.setCell ⟨w.heap.size + 1, 0, none⟩ (.slice none 0 0)).setCell ⟨w.heap.size + 1, 1, none⟩ (.slice none 0 0)).cell? ⟨w.heap.size + 1, 0, none⟩ = some (.slice none 0 0) by simp [go_sem, d0, d1])
        have HS1 := Lib.hid (show ((w2.setCell ⟨w.heap.size + 1, 0, none⟩ (.slice none 0 0)).setCell ⟨w.heap.size + 1, 1, none⟩ (.slice none 0 0)).cell? ⟨w.heap.size + 1, 1, none⟩ = some (.slice none 0 0) by simp [go_sem, d0, d1])
        have HFB := Lib.hid (show Below w.heap.size w ((w2.setCell ⟨w.heap.size + 1, 0, none⟩ (.slice none 0 0)).setCell ⟨w.heap.size + 1, 1, none⟩ (.slice none 0 0)) from (HBX.out.setCell (p := ⟨w.heap.size + 1, 0, none⟩) (Nat.le_succ _) _).setCell (p := ⟨w.heap.size + 1, 1, none⟩) (Nat.le_succ _) _)
        clear hB1 hb2 hG0 hG10
        go_wp2_with fail
        simp only [Exit.jump]
        refine bodyPost_ret (results_cell (t := 30) rfl _ _ _ _ rfl (loadCol _ _ _ _ HS0.out HS1.out)) rfl ?_
        exact ⟨HFB.out, .inr (.inl ⟨HCK0.out, HNOK.out, rfl⟩)⟩
  · have hcn : ¬ Gr.checkV s e st = 0 := hck
    have HCN := Lib.hid hcn
    obtain ⟨c, hc⟩ : ∃ c, c = Gr.checkV s e st := ⟨_, rfl⟩
    rw [← hc] at HCK hcn HCN
    have hcb : (c == 0) = false := by simpa using hcn
    have hcb2 : (c != 0) = true := by simpa using hcn
    have HCE := Lib.hid hc
    clear hck hc
    go_enter Try.func6, Try.ntmps6
    go_wp2_with fail
    refine wp_jump_fall 0 (fun _ _ => False) (fun _ _ => 0) rfl (fun _ => ?_) (fun _ _ hF => hF.elim)
    go_wp2_with fail
    refine (HCK.out _).mono ?_
    rintro x w1 ⟨rfl, hb1⟩
    have hb0 : Below w.heap.size w ((w.alloc (.cells #[.int .i64 s, .int .i64 e, .int .i64 st] 24)).alloc (.cells #[.slice none 0 0, .slice none 0 0] 30)) := ((Below.refl _ _).alloc (Nat.le_refl _) _).alloc (by simp) _
    have hB1 : Below w.heap.size w w1 := hb0.trans (hb1.mono (by simp; omega))
    have hG0 : w1.heap[w.heap.size + 1]? = some (.cells #[.slice none 0 0, .slice none 0 0] 30 (0, 0)) := by
      rw [hb1.block _ (by simp)]
      have := heap_new (w.alloc (.cells #[.int .i64 s, .int .i64 e, .int .i64 st] 24)) (.cells #[.slice none 0 0, .slice none 0 0] 30)
      simpa using this
    have HBX := Lib.hid hB1
    have hG10 : w1.heap[w.heap.size + 1]? = some (.cells #[.slice none 0 0, .slice none 0 0] 30 (0, 0)) := hG0
    have d0 : w1.cell? ⟨w.heap.size + 1, 0, none⟩ = some (.slice none 0 0) := by rw [cell_of_row w1 (w.heap.size + 1) 0 _ _ _ hG10]; rfl
    have d1 : w1.cell? ⟨w.heap.size + 1, 1, none⟩ = some (.slice none 0 0) := by rw [cell_of_row w1 (w.heap.size + 1) 1 _ _ _ hG10]; rfl
    have e0 : w1.frozen? ⟨w.heap.size + 1, 0, none⟩ = false := by simp [World.frozen?, hG10]
    have e1 : w1.frozen? ⟨w.heap.size + 1, 1, none⟩ = false := by simp [World.frozen?, hG10]
    have HS0 := Lib.hid (show ((w1.setCell ⟨w.heap.size + 1, 0, none⟩ (.slice none 0 0)).setCell ⟨w.heap.size + 1, 1, none⟩ (.slice none 0 0)).cell? ⟨w.heap.size + 1, 0, none⟩ = some (.slice none 0 0) by simp [go_sem, d0, d1])
    have HS1 := Lib.hid (show ((w1.setCell ⟨w.heap.size + 1, 0, none⟩ (.slice none 0 0)).setCell ⟨w.heap.size + 1, 1, none⟩ (.slice none 0 0)).cell? ⟨w.heap.size + 1, 1, none⟩ = some (.slice none 0 0) by simp [go_sem, d0, d1])
    have HFB := Lib.hid (show Below w.heap.size w ((w1.setCell ⟨w.heap.size + 1, 0, none⟩ (.slice none 0 0)).setCell ⟨w.heap.size + 1, 1, none⟩ (.slice none 0 0)) from (HBX.out.setCell (p := ⟨w.heap.size + 1, 0, none⟩) (Nat.le_succ _) _).setCell (p := ⟨w.heap.size + 1, 1, none⟩) (Nat.le_succ _) _)
    clear hb0 hb1 hB1 hG0 hG10
    go_wp2_with fail
    simp only [Exit.jump]
    refine bodyPost_ret (results_cell (t := 30) rfl _ _ _ _ rfl (loadCol _ _ _ _ HS0.out HS1.out)) rfl ?_
    exact ⟨HFB.out, .inl ⟨by rw [← HCE.out]; exact HCN.out, by rw [← HCE.out]; rfl⟩⟩
end Go.Proofs.Ytidmbjgnkodiiaa
