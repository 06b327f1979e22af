/- The document's Slide: the walk. -/
import Derived.Test.YtidmbjgnkodiiaaWin26
import Derived.Test.YtidmbjgnkodiiaaWin13
namespace Go.Proofs.Ytidmbjgnkodiiaa
open Go Go.RowKit
set_option linter.unusedVariables false
set_option linter.unusedSimpArgs false
set_option maxRecDepth 100000
theorem results_tmp3 {fn : Func} {t u s : Tmp} (h : fn.results = #[.tmp t, .tmp u, .tmp s]) (tmps : Array Value) (P : Program) (w : World) :
    (results fn tmps).run P w = .ok (.tuple #[tmps.getD t undef, tmps.getD u undef, tmps.getD s undef]) w := by
  simp [results, h]
def RlR (fn len off s e st : Int) (l : List (Int × Nat)) (w : World) (x : Ending) (w' : World) : Prop :=
  Below w.heap.size w w' ∧ ((Gr.checkV s e st ≠ 0 ∧ x = .returned (.tuple #[.slice none 0 0, .slice none 0 0, .int .i64 (Gr.checkV s e st)])) ∨
    (Gr.checkV s e st = 0 ∧ ¬ argsOk fn len off ∧ x = .returned (.tuple #[.slice none 0 0, .slice none 0 0, .int .i64 1])) ∨
    (Gr.checkV s e st = 0 ∧ argsOk fn len off ∧ ∃ va ha, x = .returned (.tuple #[va, ha, .int .i64 0]) ∧ Sl fenc1 w' va (colV fn len off s e st l (Gr.pointsV s e st).toNat) ∧ Sl benc1 w' ha (colH fn len off s e st l (Gr.pointsV s e st).toNat)))
set_option maxHeartbeats 8000000 in
theorem rslide_any (fn len off s e st : Int) (v : Value) (l : List (Int × Nat)) (w : World) (h : Sl tenc w v l) (hl : l.length ≤ 1000000) (hs : Gr.i64B s) (he : Gr.i64B e) (hst : Gr.i64B st) (hfn : Gr.i64B fn) (hln : Gr.i64B len) (hof : Gr.i64B off) :
    Calls Try.prog 7 #[.int .i64 fn, v, .agg #[.int .i64 s, .int .i64 e, .int .i64 st], .int .i64 len, .int .i64 off] w fun x w' => RlR fn len off s e st l w x w' := by
  have HCK := Lib.hid (fun w => Gr.rcheck_any s e st w hs he hst)
  have HPT := Lib.hid (fun w => Gr.rpoints_any s e st w hs he hst)
  have HAT := Lib.hid (fun i w (hi : Gr.i64B i) => Gr.rat_any s e st i w hs he hst hi)
  have HIN := Lib.hid (fun w => Gr.gin_any off w)
  have HSL := Lib.hid h
  obtain ⟨iF, hiF, hF0, hF1, hF2⟩ := info_parts Try.infoFl
  obtain ⟨iB, hiB, hB0, hB1, hB2⟩ := info_parts Try.infoBl
  obtain ⟨a, cap, rfl, hlen, -⟩ := h.split tenc_len
  obtain ⟨n, hn⟩ : ∃ n, n = l.length := ⟨_, rfl⟩
  rw [← hn] at HSL hlen ⊢
  have HLL := Lib.hid hl
  clear h hn hl
  obtain ⟨hfn1, hfn2⟩ := hfn
  obtain ⟨hln1, hln2⟩ := hln
  obtain ⟨hof1, hof2⟩ := hof
  have hb0 : Below w.heap.size w (w.alloc (.cells #[.int .i64 s, .int .i64 e, .int .i64 st] 24)) := (Below.refl _ _).alloc (Nat.le_refl _) _
  have HB0 := Lib.hid hb0
  clear hb0
  by_cases hck : Gr.checkV s e st = 0
  · have HCK0 := Lib.hid hck
    rw [hck] at HCK
    clear hck
    by_cases hok : argsOk fn len off
    · obtain ⟨⟨f1, f2⟩, ⟨l1, l2⟩, o1, o2⟩ := id hok
      have HOK := Lib.hid hok
      have hfa : ¬ fn < 1 := by omega
      have hfb : ¬ 14 < fn := by omega
      have hl1 : ¬ len < 1 := by omega
      have hl2 : ¬ 1125899906842624 < len := by omega
      have b0 : decide (fn < 1) = false := decide_eq_false (by omega)
      have b00 : decide (14 < fn) = false := decide_eq_false (by omega)
      have b1 : decide (len < 1) = false := decide_eq_false (by omega)
      have b2 : decide (1125899906842624 < len) = false := decide_eq_false (by omega)
      have hin : Gr.isB off = true := by unfold Gr.isB; exact decide_eq_true ⟨o1, o2⟩
      rw [hin] at HIN
      clear hok hin
      go_enter Try.func7, Try.ntmps7
      go_wp2_with fail
      refine (HCK.out _).mono ?_
      rintro x w1 ⟨rfl, hb1⟩
      have hB1 : Below w.heap.size w w1 := HB0.out.trans (hb1.mono (by simp))
      have hG7 : w1.heap[w.heap.size]? = some (.cells #[.int .i64 s, .int .i64 e, .int .i64 st] 24 (0, 0)) := by
        rw [hb1.block _ (by simp)]; exact heap_new _ _
      have HB1 := Lib.hid hB1
      have HG7 := Lib.hid hG7
      clear hb1 hB1 hG7
      go_wp2_with fail
      refine (HIN.out _).mono ?_
      rintro x w2 ⟨rfl, rfl⟩
      obtain ⟨pv, hpv⟩ : ∃ pv, pv = Gr.pointsV s e st := ⟨_, rfl⟩
      have hpb : 0 ≤ pv ∧ pv ≤ 4096 := by
        have := (Gr.checkV_ok HCK0.out)
        rw [hpv]
        unfold Gr.pointsV
        rw [if_pos HCK0.out]
        omega
      obtain ⟨hp0, hp1⟩ := hpb
      rw [← hpv] at HPT
      have HPV := Lib.hid hpv
      clear hpv
      go_wp2_with fail
      go_loopw [14, 15, 16] (fun va ha i W => ∃ (k : Nat), (k : Int) ≤ pv ∧ i = .int .i64 k ∧ W.ownsRow w1.heap.size 38 1 va k ((colV fn len off s e st l k).map (Value.float .f64)) ∧ W.ownsRow w1.heap.size 4 1 ha k ((colH fn len off s e st l k).map Value.bool) ∧ Hid (Below w1.heap.size w1 W)) (fun _ _ i _ => pv.toNat - (intOf i).toNat)
      case atStart => exact ⟨0, hp0, rfl, World.ownsRow_nil _ _ _ _, World.ownsRow_nil _ _ _ _, Below.refl _ _⟩
      case round =>
        obtain ⟨k, hk, rfl, hoA, hoH, HB⟩ := hrel
        have h00 : (0 : Int) ≤ (k : Int) := by omega
        have p0 : wr.cell? ⟨w.heap.size, 0, none⟩ = some (.int .i64 s) := cell_below HB.out (Nat.le_refl _) (by rw [cell_of_row w1 w.heap.size 0 _ _ _ HG7.out]; rfl)
        have p1 : wr.cell? ⟨w.heap.size, 1, none⟩ = some (.int .i64 e) := cell_below HB.out (Nat.le_refl _) (by rw [cell_of_row w1 w.heap.size 1 _ _ _ HG7.out]; rfl)
        have p2 : wr.cell? ⟨w.heap.size, 2, none⟩ = some (.int .i64 st) := cell_below HB.out (Nat.le_refl _) (by rw [cell_of_row w1 w.heap.size 2 _ _ _ HG7.out]; rfl)
        have HOA := Lib.hid hoA
        have HOH := Lib.hid hoH
        have hn : ∀ V : Value, V.ownBlock = none ∨ V.ownBlock ≠ none := fun V => by cases V.ownBlock <;> simp
        have HKP := Lib.hid (fun (W' : World) (hb : Below wr.heap.size wr W') => And.intro (hoA.kept (row := none) ⟨hb.os, hb.tape, hb.output, hb.size, fun b hk _ => hb.block b hk⟩ (hn _)) (hoH.kept (row := none) ⟨hb.os, hb.tape, hb.output, hb.size, fun b hk _ => hb.block b hk⟩ (hn _)))
        clear hoA hoH hn
        have hBz := HB.out.size
        go_wp2_with fail
        refine (HPT.out _).mono ?_
        rintro x w2 ⟨rfl, hb2⟩
        have HB2 := Lib.hid hb2
        have p0' := cell_below hb2 (Nat.le_refl _) p0
        have p1' := cell_below hb2 (Nat.le_refl _) p1
        have p2' := cell_below hb2 (Nat.le_refl _) p2
        clear hb2 p0 p1 p2
        by_cases hlt : (k : Int) < pv
        · have hltb : decide ((k : Int) < pv) = true := decide_eq_true hlt
          have hltp : (k : Int) < Gr.pointsV s e st := by rw [← HPV.out]; exact hlt
          have hfit := Gr.at_fit (i := (k : Int)) (by omega) hltp
          have hatv : Gr.atV s e st k = (s + (k : Int) * st, true) := by unfold Gr.atV; rw [if_neg (by omega)]
          have hend := Gr.checkV_ok HCK0.out
          obtain ⟨t, ht⟩ : ∃ t, t = s + (k : Int) * st := ⟨_, rfl⟩
          have HATk := Lib.hid (fun W => HAT.out k W ⟨by omega, by omega⟩)
          rw [hatv, ← ht] at HATk
          have htb : -1125899906842624 ≤ t ∧ t ≤ 1125899906842624 := by omega
          have HFN := Lib.hid (fun w' (hb : Below w.heap.size w w') => rfn_any fn (.slice a n cap) l (t - off - len) (t - off) w' (HSL.out.below hb (Nat.le_refl _)) HLL.out (by omega) (by omega))
          have hfv : FV fn len off s e st l k = fnR fn (t - off - len) (t - off) l := by unfold FV; rw [hatv, ← ht]
          obtain ⟨x, hx⟩ : ∃ x, x = (fnR fn (t - off - len) (t - off) l).1 := ⟨_, rfl⟩
          obtain ⟨q, hq⟩ : ∃ q, q = (fnR fn (t - off - len) (t - off) l).2 := ⟨_, rfl⟩
          rw [← hx, ← hq] at HFN
          obtain ⟨xsA, hxA⟩ : ∃ xs, xs = (colV fn len off s e st l k).map (Value.float .f64) := ⟨_, rfl⟩
          obtain ⟨xsH, hxH⟩ : ∃ xs, xs = (colH fn len off s e st l k).map Value.bool := ⟨_, rfl⟩
          have HXA := Lib.hid (show (colV fn len off s e st l (k + 1)).map (Value.float .f64) = xsA ++ [.float .f64 x] by rw [colV_succ, List.map_append, hxA, hfv, hx]; rfl)
          have HXH := Lib.hid (show (colH fn len off s e st l (k + 1)).map Value.bool = xsH ++ [.bool q] by rw [colH_succ, List.map_append, hxH, hfv, hq]; rfl)
          rw [← hxA, ← hxH] at HKP
          have hw1 : IntKind.i64.wrap (t - off) = t - off := by rw [IntKind.wrap_i64] <;> omega
          have hw2 : IntKind.i64.wrap (t - off - len) = t - off - len := by rw [IntKind.wrap_i64] <;> omega
          clear hfit hatv hend ht hfv hx hq hxA hxH hltp
          go_wp2_with fail
          refine (HATk.out _).mono ?_
          rintro y w3 ⟨rfl, hb3⟩
          have HB3 := Lib.hid (HB2.out.trans (hb3.mono HB2.out.size))
          have HBW := Lib.hid (HB1.out.trans ((HB.out.trans (HB3.out.mono hBz)).mono HB1.out.size))
          clear hb3
          go_wp2_with fail
          refine (HFN.out _ HBW.out).mono ?_
          rintro y w4 ⟨rfl, hb4⟩
          have HB4 := Lib.hid (HB3.out.trans (hb4.mono HB3.out.size))
          have HBC := Lib.hid (HB.out.trans (HB4.out.mono hBz))
          obtain ⟨oA, oH⟩ := HKP.out _ HB4.out
          have hz4 : w1.heap.size ≤ w4.heap.size := HBC.out.size
          clear hb4
          go_wp2_with (at_builtin; refine wpList_append_own _ rfl _ _ 27 rfl w1.heap.size 38 iF (.float .f64 0) 1 8 Try.underlying27 hiF hF0 hF1 hF2 rfl (by decide) _ k xsA rfl (oA.alloc _) ⟨w4.heap.size, 0, none⟩ 1 1 [.float .f64 x] rfl rfl (World.news_of_block (heap_new _ _)) (by intro u hu; simp at hu; subst hu; rfl) (by unfold maxLen; omega) (by omega) (by simp; omega) ?_)
          intro VA w5 oA5 hg5 _
          have oH5 := (oH.alloc (.cells #[.float .f64 x] 38)).kept hg5 (row_row (oA.alloc (.cells #[.float .f64 x] 38)) (oH.alloc (.cells #[.float .f64 x] 38)) (by decide))
          have hB5 : Below w1.heap.size w1 w5 := (HBC.out.alloc hz4 (.cells #[.float .f64 x] 38)).grown hg5 (by simp; omega) (fun j hj => (oA.lt j hj).1)
          have HB5 := Lib.hid hB5
          have hz5 := hB5.size
          clear oA oH hg5 hB5
          go_wp2_with (at_builtin; refine wpList_append_own _ rfl _ _ 28 rfl w1.heap.size 4 iB (.bool false) 1 1 Try.underlying28 hiB hB0 hB1 hB2 rfl (by decide) _ k xsH rfl (oH5.alloc _) ⟨w5.heap.size, 0, none⟩ 1 1 [.bool q] rfl rfl (World.news_of_block (heap_new _ _)) (by intro u hu; simp at hu; subst hu; rfl) (by unfold maxLen; omega) (by omega) (by simp; omega) ?_)
          intro VH w6 oH6 hg6 _
          have oA6 := (oA5.alloc (.cells #[.bool q] 4)).kept hg6 (row_row (oH5.alloc (.cells #[.bool q] 4)) (oA5.alloc (.cells #[.bool q] 4)) (by decide))
          have HB6 := Lib.hid ((HB5.out.alloc hz5 (.cells #[.bool q] 4)).grown hg6 (by simp; omega) (fun j hj => (oH5.lt j hj).1))
          have HO6A := Lib.hid oA6
          have HO6H := Lib.hid oH6
          clear oA5 oH5 oH6 hg6 oA6
          go_wp2_with fail
          go_roundw
          case rel => exact ⟨k + 1, by omega, by go_num, by rw [HXA.out]; exact HO6A.out, by rw [HXH.out]; exact HO6H.out, HB6.out⟩
          case measure => simp [intOf]; omega
        · have hltb : decide ((k : Int) < pv) = false := decide_eq_false hlt
          have HKN := Lib.hid (show (Gr.pointsV s e st).toNat = k by rw [← HPV.out]; omega)
          have HBW := Lib.hid (HB1.out.trans ((HB.out.trans (HB2.out.mono hBz)).mono HB1.out.size))
          have HK2 := Lib.hid (HKP.out _ HB2.out)
          go_wp2_with fail
          (try simp only [Exit.inBlock, Exit.then])
          refine bodyPost_ret (results_tmp3 rfl _ _ _) rfl ?_
          exact ⟨HBW.out, .inr (.inr ⟨HCK0.out, HOK.out, _, _, rfl, by rw [HKN.out]; exact Sl.own (fun _ => rfl) (by decide) (by rw [flat_f]; exact HK2.out.1), by rw [HKN.out]; exact Sl.own (fun _ => rfl) (by decide) (by rw [flat_b]; exact HK2.out.2)⟩)⟩
    · have hsix : fn < 1 ∨ (¬ fn < 1 ∧ 14 < fn) ∨ (¬ fn < 1 ∧ ¬ 14 < fn ∧ len < 1) ∨ (¬ fn < 1 ∧ ¬ 14 < fn ∧ ¬ len < 1 ∧ 1125899906842624 < len) ∨ (¬ fn < 1 ∧ ¬ 14 < fn ∧ ¬ len < 1 ∧ ¬ 1125899906842624 < len ∧ Gr.isB off = false) := by
        unfold argsOk at hok
        by_cases hr : -1125899906842624 ≤ off ∧ off ≤ 1125899906842624
        · omega
        · have hi : Gr.isB off = false := by unfold Gr.isB; exact decide_eq_false hr
          simp only [hi, and_true]
          omega
      have HNOK := Lib.hid hok
      clear hok
      rcases hsix with h1 | ⟨h1, h2⟩ | ⟨h1, h2, h3⟩ | ⟨h1, h2, h3, h4⟩ | ⟨h1, h2, h3, h4, h5⟩
      case' inl => have b1 : decide (fn < 1) = true := decide_eq_true h1
      case' inr.inl =>
        have b1 : decide (fn < 1) = false := decide_eq_false h1
        have b2 : decide (14 < fn) = true := decide_eq_true h2
      case' inr.inr.inl =>
        have b1 : decide (fn < 1) = false := decide_eq_false h1
        have b2 : decide (14 < fn) = false := decide_eq_false h2
        have b3 : decide (len < 1) = true := decide_eq_true h3
      case' inr.inr.inr.inl =>
        have b1 : decide (fn < 1) = false := decide_eq_false h1
        have b2 : decide (14 < fn) = false := decide_eq_false h2
        have b3 : decide (len < 1) = false := decide_eq_false h3
        have b4 : decide (1125899906842624 < len) = true := decide_eq_true h4
      case' inr.inr.inr.inr =>
        have b1 : decide (fn < 1) = false := decide_eq_false h1
        have b2 : decide (14 < fn) = false := decide_eq_false h2
        have b3 : decide (len < 1) = false := decide_eq_false h3
        have b4 : decide (1125899906842624 < len) = false := decide_eq_false h4
        rw [h5] at HIN
      all_goals
        go_enter Try.func7, Try.ntmps7
        go_wp2_with fail
        refine (HCK.out _).mono ?_
        rintro x w1 ⟨rfl, hb1⟩
        have HB1 := Lib.hid (HB0.out.trans (hb1.mono (by simp)))
        clear hb1
        go_wp2_with (go_at_call 19; refine (HIN.out _).mono ?_; rintro x w2 ⟨rfl, rfl⟩)
        (try simp only [Exit.inBlock, Exit.then])
        refine bodyPost_ret (results_tmp3 rfl _ _ _) rfl ?_
        exact ⟨HB1.out, .inr (.inl ⟨HCK0.out, HNOK.out, rfl⟩)⟩
  · have hcn : ¬ Gr.checkV s e st = 0 := hck
    have HCN := Lib.hid hcn
    obtain ⟨c, hc⟩ : ∃ c, c = Gr.checkV s e st := ⟨_, rfl⟩
    rw [← hc] at HCK hcn HCN
    have hcb : (c == 0) = false := by simpa using hcn
    have hcb2 : (c != 0) = true := by simpa using hcn
    have HCE := Lib.hid hc
    clear hck hc
    go_enter Try.func7, Try.ntmps7
    go_wp2_with fail
    refine (HCK.out _).mono ?_
    rintro x w1 ⟨rfl, hb1⟩
    have HB1 := Lib.hid (HB0.out.trans (hb1.mono (by simp)))
    clear hb1
    go_wp2_with fail
    (try simp only [Exit.inBlock, Exit.then])
    refine bodyPost_ret (results_tmp3 rfl _ _ _) rfl ?_
    exact ⟨HB1.out, .inl ⟨by rw [← HCE.out]; exact HCN.out, by rw [← HCE.out]; rfl⟩⟩
end Go.Proofs.Ytidmbjgnkodiiaa
