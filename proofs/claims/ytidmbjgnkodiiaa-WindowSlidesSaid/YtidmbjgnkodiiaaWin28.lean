/- The walk of WindowSlides; a grid, opened. -/
import Derived.Test.YtidmbjgnkodiiaaWin27
import Derived.Test.YtidmbjgnkodiiaaWin19
import Derived.Test.YtidmbjgnkodiiaaWin16
import Derived.ProofKit
import Derived.OpenShut
import Derived.Deep.Strs
import Derived.ChangeArms
import Derived.Lib.SmallJoins
import Derived.Deep.RegionLaw
import Derived.BigQuiet
namespace Go.Proofs.Ytidmbjgnkodiiaa
open Go Go.RowKit Go.ChangeShapes Go.WideShapes Go.Joins
set_option linter.unusedVariables false
set_option linter.unusedSimpArgs false
set_option maxRecDepth 100000

theorem Try.cellsIw : Try.prog.cellsOf 3 = 1 := by kernel_rfl
theorem Try.cellsGw : Try.prog.cellsOf 24 = 3 := by kernel_rfl
theorem i64_wfw {a : Int} (h : (Lit.int .i64 a).wf = true) : Gr.i64B a := by
  unfold Gr.i64B
  simp [Lit.wf, IntKind.min, IntKind.max, IntKind.signed, IntKind.bits] at h
  omega
section
variable {H : Type} {enc : TypeId × Value → H} {w : World} {base : Nat} {spare : Nat → Bool} {held : Bool}
theorem open_grid {r : Reach} {b0 : Nat} {v : Value} {d : DataW H} {ps : List MemPlace} (hval : Value.okWide Try.prog w r b0 24 v) (h : DataW.Trod enc Try.prog w base spare held 24 v d ps) : ∃ s e st, v = .agg #[.int .i64 s, .int .i64 e, .int .i64 st] ∧ (Gr.i64B s ∧ Gr.i64B e ∧ Gr.i64B st) := by
  obtain ⟨cs, rfl, hsz⟩ := okWide_struct Try.underlying24 hval
  obtain ⟨fuel, hf⟩ := h
  obtain ⟨y0, y1, y2, m, hx, hl, h0, h1, h2⟩ := Go.Deep.trod_struct3 Try.underlying24 hf
  have hl3 : cs.toList.length = 3 := by simpa [Try.cellsGw] using hsz
  obtain ⟨l, rfl⟩ : ∃ l : List Value, cs = l.toArray := ⟨cs.toList, by simp⟩
  simp only [Value.cells] at h0 h1 h2
  simp only [List.toList_toArray] at hl3 h0 h1 h2
  match l, hl3 with
  | [c0, c1, c2], _ =>
    obtain ⟨s, e0, _, w0⟩ := DataW.trod_int Try.underlying3 h0
    obtain ⟨e, e1, _, w1⟩ := DataW.trod_int Try.underlying3 h1
    obtain ⟨st, e2, _, w2⟩ := DataW.trod_int Try.underlying3 h2
    simp [Try.cellsIw] at e0 e1 e2
    subst e0 e1 e2
    exact ⟨s, e, st, rfl, i64_wfw w0, i64_wfw w1, i64_wfw w2⟩
end
/-- What both sides answer, in one form. -/
noncomputable def colN (fn len off s e st : Int) : Nat := by
  classical
  exact if Gr.checkV s e st = 0 ∧ argsOk fn len off then (Gr.pointsV s e st).toNat else 0
noncomputable def colE (fn len off s e st : Int) : Int := by
  classical
  exact if Gr.checkV s e st = 0 then (if argsOk fn len off then 0 else 1) else Gr.checkV s e st
theorem sl_nilF (w : World) : Sl fenc1 w (.slice none 0 0) [] := ⟨none, 0, rfl, ⟨Nat.le_refl _, by omega⟩, fun _ => ⟨rfl, rfl⟩, fun h => absurd rfl h⟩
theorem sl_nilB (w : World) : Sl benc1 w (.slice none 0 0) [] := ⟨none, 0, rfl, ⟨Nat.le_refl _, by omega⟩, fun _ => ⟨rfl, rfl⟩, fun h => absurd rfl h⟩
theorem SlR.one {fn len off s e st : Int} {l : List (Int × Nat)} {w w' : World} {x : Ending} (h : SlR fn len off s e st l w x w') :
    Below w.heap.size w w' ∧ ∃ va ha, x = .returned (.tuple #[.agg #[va, ha], .int .i64 (colE fn len off s e st)]) ∧ Sl fenc1 w' va (colV fn len off s e st l (colN fn len off s e st)) ∧ Sl benc1 w' ha (colH fn len off s e st l (colN fn len off s e st)) := by
  obtain ⟨hb, ⟨h1, rfl⟩ | ⟨h1, h2, rfl⟩ | ⟨h1, h2, va, ha, rfl, h3, h4⟩⟩ := h
  · have e1 : colN fn len off s e st = 0 := by unfold colN; rw [if_neg (fun q => h1 q.1)]
    have e2 : colE fn len off s e st = Gr.checkV s e st := by unfold colE; rw [if_neg h1]
    rw [e1, e2]
    exact ⟨hb, _, _, rfl, sl_nilF _, sl_nilB _⟩
  · have e1 : colN fn len off s e st = 0 := by unfold colN; rw [if_neg (fun q => h2 q.2)]
    have e2 : colE fn len off s e st = 1 := by unfold colE; rw [if_pos h1, if_neg h2]
    rw [e1, e2]
    exact ⟨hb, _, _, rfl, sl_nilF _, sl_nilB _⟩
  · have e1 : colN fn len off s e st = (Gr.pointsV s e st).toNat := by unfold colN; rw [if_pos ⟨h1, h2⟩]
    have e2 : colE fn len off s e st = 0 := by unfold colE; rw [if_pos h1, if_pos h2]
    rw [e1, e2]
    exact ⟨hb, _, _, rfl, h3, h4⟩
theorem RlR.one {fn len off s e st : Int} {l : List (Int × Nat)} {w w' : World} {x : Ending} (h : RlR fn len off s e st l w x w') :
    Below w.heap.size w w' ∧ ∃ va ha, x = .returned (.tuple #[va, ha, .int .i64 (colE fn len off s e st)]) ∧ Sl fenc1 w' va (colV fn len off s e st l (colN fn len off s e st)) ∧ Sl benc1 w' ha (colH fn len off s e st l (colN fn len off s e st)) := by
  obtain ⟨hb, ⟨h1, rfl⟩ | ⟨h1, h2, rfl⟩ | ⟨h1, h2, va, ha, rfl, h3, h4⟩⟩ := h
  · have e1 : colN fn len off s e st = 0 := by unfold colN; rw [if_neg (fun q => h1 q.1)]
    have e2 : colE fn len off s e st = Gr.checkV s e st := by unfold colE; rw [if_neg h1]
    rw [e1, e2]
    exact ⟨hb, _, _, rfl, sl_nilF _, sl_nilB _⟩
  · have e1 : colN fn len off s e st = 0 := by unfold colN; rw [if_neg (fun q => h2 q.2)]
    have e2 : colE fn len off s e st = 1 := by unfold colE; rw [if_pos h1, if_neg h2]
    rw [e1, e2]
    exact ⟨hb, _, _, rfl, sl_nilF _, sl_nilB _⟩
  · have e1 : colN fn len off s e st = (Gr.pointsV s e st).toNat := by unfold colN; rw [if_pos ⟨h1, h2⟩]
    have e2 : colE fn len off s e st = 0 := by unfold colE; rw [if_pos h1, if_pos h2]
    rw [e1, e2]
    exact ⟨hb, _, _, rfl, h3, h4⟩
/-- What the law's round wants of a point. -/
theorem col_at {fn len off s e st : Int} {l : List (Int × Nat)} {k : Nat} (h : k < colN fn len off s e st) :
    ∃ x q, fnR fn (s + (k : Int) * st - off - len) (s + (k : Int) * st - off) l = (x, q) ∧ canon x = x ∧ (colV fn len off s e st l (colN fn len off s e st))[k]? = some x ∧ (colH fn len off s e st l (colN fn len off s e st))[k]? = some q ∧
    (0 ≤ (k : Int) * st ∧ (k : Int) * st ≤ 2251799813685248) ∧ (-1125899906842624 ≤ s + (k : Int) * st ∧ s + (k : Int) * st ≤ 1125899906842624) ∧ (1 ≤ len ∧ len ≤ 1125899906842624) ∧ (-1125899906842624 ≤ off ∧ off ≤ 1125899906842624) ∧ (-1125899906842624 ≤ s ∧ s ≤ 1125899906842624) := by
  have e1 : Gr.checkV s e st = 0 ∧ argsOk fn len off := by
    rcases Classical.em (Gr.checkV s e st = 0 ∧ argsOk fn len off) with h1 | h1
    · exact h1
    · unfold colN at h; rw [if_neg h1] at h; omega
  have e2 : colN fn len off s e st = (Gr.pointsV s e st).toNat := by unfold colN; rw [if_pos e1]
  rw [e2] at h ⊢
  have hp : (k : Int) < Gr.pointsV s e st := by omega
  have ⟨h1, h2, h3, h4⟩ := Gr.at_fit (i := (k : Int)) (by omega) hp
  have ⟨⟨b0, b1⟩, b2, b3, b4, b5, b6, b7, b8, b9⟩ := Gr.checkV_ok e1.1
  have ha : Gr.atV s e st k = (s + (k : Int) * st, true) := by unfold Gr.atV; rw [if_neg (by omega)]
  have hf : FV fn len off s e st l k = fnR fn (s + (k : Int) * st - off - len) (s + (k : Int) * st - off) l := by unfold FV; rw [ha]
  refine ⟨_, _, rfl, fnR_canon _ _ _ _, ?_, ?_, h1, ⟨by omega, by omega⟩, e1.2.2.1, e1.2.2.2, h2⟩
  · unfold colV; rw [List.getElem?_map, List.getElem?_range h, Option.map_some]; exact congrArg some (congrArg Prod.fst hf)
  · unfold colH; rw [List.getElem?_map, List.getElem?_range h, Option.map_some]; exact congrArg some (congrArg Prod.snd hf)
theorem colN_le (fn len off s e st : Int) : colN fn len off s e st ≤ 4096 := by
  unfold colN
  split
  · rename_i h
    have ⟨⟨b0, b1⟩, b2, b3, b4, b5, b6, b7, b8, b9⟩ := Gr.checkV_ok h.1
    unfold Gr.pointsV
    rw [if_pos h.1]
    omega
  · omega
theorem colV_len (fn len off s e st : Int) (l : List (Int × Nat)) (k : Nat) : (colV fn len off s e st l k).length = k := by simp [colV]
theorem colH_len (fn len off s e st : Int) (l : List (Int × Nat)) (k : Nat) : (colH fn len off s e st l k).length = k := by simp [colH]

theorem fl_at {w : World} {a : Option Addr} {n cap k x : Nat} {xs : List Nat} (h : Sl fenc1 w (.slice a n cap) xs) (hk : xs[k]? = some x) : ∃ b off, a = some ⟨b, off, none⟩ ∧ w.cell? ⟨b, off + k, none⟩ = some (.float .f64 x) := by
  obtain ⟨a2, c2, he, -, hc⟩ := h.floats
  injection he with h1 _ _
  subst h1
  obtain ⟨hlt, hx⟩ := List.getElem?_eq_some_iff.1 hk
  obtain ⟨b, off, rfl, hd⟩ := hc k hlt
  have := hd k hlt
  rw [fx_at hlt, hx] at this
  exact ⟨b, off, rfl, this⟩
theorem bl_at {w : World} {a : Option Addr} {n cap k : Nat} {x : Bool} {xs : List Bool} (h : Sl benc1 w (.slice a n cap) xs) (hk : xs[k]? = some x) : ∃ b off, a = some ⟨b, off, none⟩ ∧ w.cell? ⟨b, off + k, none⟩ = some (.bool x) := by
  obtain ⟨a2, c2, he, -, hc⟩ := h.bools
  injection he with h1 _ _
  subst h1
  obtain ⟨hlt, hx⟩ := List.getElem?_eq_some_iff.1 hk
  obtain ⟨b, off, rfl, hd⟩ := hc k hlt
  have := hd k hlt
  rw [hx] at this
  exact ⟨b, off, rfl, this⟩
set_option maxHeartbeats 16000000 in
theorem slides_walk (v : Value) (l : List (Int × Nat)) (s e st fn len off : Int) (w : World) (h : Sl tenc w v l) (hs : Gr.i64B s) (he : Gr.i64B e) (hst : Gr.i64B st) (hfn : Gr.i64B fn) (hln : Gr.i64B len) (hof : Gr.i64B off) :
    Calls Try.prog 3 #[v, .agg #[.int .i64 s, .int .i64 e, .int .i64 st], .int .i64 fn, .int .i64 len, .int .i64 off] w fun x w' => x = .returned (.bool true) ∧ Below w.heap.size w w' := by
  have H := Lib.hid h
  have hf := call_bits
  have hA := (fun hl w (h : Sl tenc w v l) => (slide_any fn len off s e st v l w h hl hs he hst hfn hln hof).mono (fun x w' h => h.one))
  have hR := (fun hl w (h : Sl tenc w v l) => (rslide_any fn len off s e st v l w h hl hs he hst hfn hln hof).mono (fun x w' h => h.one))
  have hC := fun k (h : k < colN fn len off s e st) => col_at (l := l) h
  have hV := colV_len fn len off s e st l (colN fn len off s e st)
  have hB := colH_len fn len off s e st l (colN fn len off s e st)
  have hN := colN_le fn len off s e st
  revert hA hR hC hV hB hN
  generalize hVe : colV fn len off s e st l (colN fn len off s e st) = V
  generalize hBe : colH fn len off s e st l (colN fn len off s e st) = B
  generalize hEe : colE fn len off s e st = E
  generalize colN fn len off s e st = N
  rintro hA hR hC rfl hB hN
  have HA := Lib.hid hA
  have HR := Lib.hid hR
  have HC := Lib.hid hC
  clear hA hR hC hVe hBe hEe
  obtain ⟨s1, s2⟩ := id hs
  obtain ⟨e1, e2⟩ := id he
  obtain ⟨t1, t2⟩ := id hst
  have HI := Lib.hid (And.intro hfn (And.intro hln hof))
  clear hs he hst hfn hln hof h
  have hb0 : Below w.heap.size w (w.alloc (.cells #[.int .i64 s, .int .i64 e, .int .i64 st] 24)) := (Below.refl _ _).alloc (Nat.le_refl _) _
  have HB0 := Lib.hid hb0
  clear hb0
  have hcase : ¬ 0 < st ∨ (0 < st ∧ ¬ s ≤ e) ∨ (0 < st ∧ s ≤ e ∧ ¬ -1125899906842624 ≤ s) ∨ (0 < st ∧ s ≤ e ∧ -1125899906842624 ≤ s ∧ ¬ e ≤ 1125899906842624) ∨ (0 < st ∧ s ≤ e ∧ -1125899906842624 ≤ s ∧ e ≤ 1125899906842624 ∧ ¬ 60 < (e - s) / st) ∨ (0 < st ∧ s ≤ e ∧ -1125899906842624 ≤ s ∧ e ≤ 1125899906842624 ∧ 60 < (e - s) / st ∧ ¬ (e - s) / st < 4096) ∨ (0 < st ∧ s ≤ e ∧ -1125899906842624 ≤ s ∧ e ≤ 1125899906842624 ∧ 60 < (e - s) / st ∧ (e - s) / st < 4096) := by omega
  go_enter Try.func3, Try.ntmps3
  go_wp2_with fail
  refine (known8 _).mono ?_
  rintro x w1 ⟨rfl, hb1⟩
  have hB1 : Below w.heap.size w w1 := HB0.out.trans (hb1.mono (by simp))
  have hG : w1.heap[w.heap.size]? = some (.cells #[.int .i64 s, .int .i64 e, .int .i64 st] 24 (0, 0)) := by
    rw [hb1.block _ (by simp)]; exact heap_new _ _
  have HB1 := Lib.hid hB1
  have HG := Lib.hid hG
  clear hb1 hB1 hG
  go_wp2_with fail
  refine (right_any v l _ (H.out.below HB1.out (Nat.le_refl _))).mono ?_
  rintro x w2 ⟨q, rfl, hq, hb2⟩
  have hB2 : Below w.heap.size w w2 := HB1.out.trans (hb2.mono HB1.out.size)
  have hz1 : w.heap.size < w1.heap.size := by rcases Nat.lt_or_ge w.heap.size w1.heap.size with h | h; exact h; (have := HG.out; simp [Array.getElem?_eq_none h] at this)
  have hG2 : w2.heap[w.heap.size]? = some (.cells #[.int .i64 s, .int .i64 e, .int .i64 st] 24 (0, 0)) := by
    rw [hb2.block _ hz1]; exact HG.out
  have hz2 : w.heap.size < w2.heap.size := Nat.lt_of_lt_of_le hz1 hb2.size
  have HB2 := Lib.hid hB2
  have HG2 := Lib.hid hG2
  have p0 : w2.cell? ⟨w.heap.size, 0, none⟩ = some (.int .i64 s) := by rw [cell_of_row w2 w.heap.size 0 _ _ _ hG2]; rfl
  have p1 : w2.cell? ⟨w.heap.size, 1, none⟩ = some (.int .i64 e) := by rw [cell_of_row w2 w.heap.size 1 _ _ _ hG2]; rfl
  have p2 : w2.cell? ⟨w.heap.size, 2, none⟩ = some (.int .i64 st) := by rw [cell_of_row w2 w.heap.size 2 _ _ _ hG2]; rfl
  clear hb2 hB2 hG2
  cases q
  · clear hcase
    go_wp2_with fail
    go_ret
    exact ⟨rfl, HB2.out⟩
  · have hl := hq rfl
    clear hq
    have HQ := Lib.hid (fun d u (hd : 0 ≤ d) (hu : 1 ≤ u) => @Gr.quoF d u hu hd)
    rcases hcase with c1 | ⟨c1, c2⟩ | ⟨c1, c2, c3⟩ | ⟨c1, c2, c3, c4⟩ | ⟨c1, c2, c3, c4, c5⟩ | ⟨c1, c2, c3, c4, c5, c6⟩ | ⟨c1, c2, c3, c4, c5, c6⟩
    case' inr.inr.inr.inr.inr.inr =>
      have hsub : IntKind.i64.wrap (e - s) = e - s := IntWalk.i64_in _ (by omega)
      obtain ⟨q1, q2⟩ := HQ.out (e - s) st (by omega) (by omega)
      have h6 : st ≠ 0 := by omega
      go_wp2_with fail
      go_ret
      exact ⟨rfl, HB2.out⟩
    case' inr.inr.inr.inr.inl =>
      have hsub : IntKind.i64.wrap (e - s) = e - s := IntWalk.i64_in _ (by omega)
      obtain ⟨q1, q2⟩ := HQ.out (e - s) st (by omega) (by omega)
      have h6 : st ≠ 0 := by omega
    case' inr.inr.inr.inr.inr.inl =>
      have hsub : IntKind.i64.wrap (e - s) = e - s := IntWalk.i64_in _ (by omega)
      obtain ⟨q1, q2⟩ := HQ.out (e - s) st (by omega) (by omega)
      have h6 : st ≠ 0 := by omega
    all_goals
      go_wp2_with fail
      refine (HA.out (by omega) _ (H.out.below HB2.out (Nat.le_refl _))).mono ?_
      rintro x w3 ⟨hb3, va, ha, rfl, h3, h4⟩
      have H3 := Lib.hid h3
      have H4 := Lib.hid h4
      obtain ⟨a, cap, rfl, -, -⟩ := h3.floats
      obtain ⟨a', cap', rfl, -, -⟩ := h4.bools
      have HB3 := Lib.hid (HB2.out.trans (hb3.mono HB2.out.size))
      have hz3 : w.heap.size < w3.heap.size := Nat.lt_of_lt_of_le hz2 hb3.size
      have hG3 : w3.heap[w.heap.size]? = some (.cells #[.int .i64 s, .int .i64 e, .int .i64 st] 24 (0, 0)) := by rw [hb3.block _ hz2]; exact HG2.out
      have HG3 := Lib.hid hG3
      clear p0 p1 p2 h3 h4 hb3 hG3
      have p0 : w3.cell? ⟨w.heap.size, 0, none⟩ = some (.int .i64 s) := by rw [cell_of_row w3 w.heap.size 0 _ _ _ HG3.out]; rfl
      have p1 : w3.cell? ⟨w.heap.size, 1, none⟩ = some (.int .i64 e) := by rw [cell_of_row w3 w.heap.size 1 _ _ _ HG3.out]; rfl
      have p2 : w3.cell? ⟨w.heap.size, 2, none⟩ = some (.int .i64 st) := by rw [cell_of_row w3 w.heap.size 2 _ _ _ HG3.out]; rfl
      have h5b := fun o => HB3.out.alloc (Nat.le_of_lt hz3) o
      go_wp2_with fail
      refine (HR.out (by omega) _ (H.out.below (h5b _) (Nat.le_refl _))).mono ?_
      rintro x w5 ⟨hb5, v2, u2, rfl, h3, h4⟩
      have HB5 := Lib.hid ((h5b _).trans (hb5.mono (h5b _).size))
      have hg3 := (h5b (.cells #[.slice a V.length cap, .slice a' B.length cap'] 30)).block
      have hz5 : w3.heap.size < w5.heap.size := Nat.lt_of_lt_of_le (by simp) hb5.size
      have hG5 : w5.heap[w.heap.size]? = some (.cells #[.int .i64 s, .int .i64 e, .int .i64 st] 24 (0, 0)) := by rw [hb5.block _ (by simp; omega), ((Below.refl w3.heap.size w3).alloc (Nat.le_refl _) _).block _ hz3]; exact HG3.out
      have hK5 : w5.heap[w3.heap.size]? = some (.cells #[.slice a V.length cap, .slice a' V.length cap'] 30 (0, 0)) := by rw [hb5.block _ (by simp)]; exact heap_new _ _
      have H35 := Lib.hid ((H3.out.below ((Below.refl _ _).alloc (Nat.le_refl _) _) (Nat.le_refl _)).below hb5 (by simp))
      have H45 := Lib.hid ((H4.out.below ((Below.refl _ _).alloc (Nat.le_refl _) _) (Nat.le_refl _)).below hb5 (by simp))
      have H3R := Lib.hid h3
      have H4R := Lib.hid h4
      obtain ⟨a2, cap2, rfl, -, -⟩ := h3.floats
      obtain ⟨a2', cap2', rfl, -, -⟩ := h4.bools
      clear p0 p1 p2 h3 h4 hb5 h5b hg3 HG3 HG2 HG H3 H4
      have p0 : w5.cell? ⟨w.heap.size, 0, none⟩ = some (.int .i64 s) := by rw [cell_of_row w5 w.heap.size 0 _ _ _ hG5]; rfl
      have p1 : w5.cell? ⟨w.heap.size, 1, none⟩ = some (.int .i64 e) := by rw [cell_of_row w5 w.heap.size 1 _ _ _ hG5]; rfl
      have p2 : w5.cell? ⟨w.heap.size, 2, none⟩ = some (.int .i64 st) := by rw [cell_of_row w5 w.heap.size 2 _ _ _ hG5]; rfl
      have k0 : w5.cell? ⟨w3.heap.size, 0, none⟩ = some (.slice a V.length cap) := by rw [cell_of_row w5 w3.heap.size 0 _ _ _ hK5]; rfl
      have k1 : w5.cell? ⟨w3.heap.size, 1, none⟩ = some (.slice a' V.length cap') := by rw [cell_of_row w5 w3.heap.size 1 _ _ _ hK5]; rfl
      have P0 := Lib.hid p0
      have P2 := Lib.hid p2
      have K0 := Lib.hid k0
      have K1 := Lib.hid k1
      clear hG5 hK5
      go_wp2_with fail
      obtain ⟨c5, hc5⟩ : ∃ c5, c5 = w3.heap.size := ⟨_, rfl⟩
      rw [← hc5] at k0 k1 K0 K1
      simp only [← hc5]
      clear hc5
      go_loopw [16] (fun i wr => ∃ k : Nat, k ≤ V.length ∧ i = .int .i64 k ∧ Below w5.heap.size w5 wr) (fun i _ => V.length - (intOf i).toNat)
      case atStart => exact ⟨0, Nat.zero_le _, rfl, Below.refl _ _⟩
      case round =>
        obtain ⟨k, hk, rfl, hb⟩ := hrel
        have HB := Lib.hid hb
        by_cases hlt : k < V.length
        · obtain ⟨x, q, hfx, hcx, hvx, hbx, ⟨m1, m2⟩, ⟨m3, m4⟩, ⟨m5, m6⟩, ⟨m7, m8⟩, m9, m10⟩ := HC.out k hlt
          (try (exfalso; omega))
          all_goals
            obtain ⟨b1, o1, rfl, f1⟩ := fl_at H35.out hvx
            obtain ⟨b2, o2, rfl, f2⟩ := bl_at H45.out hbx
            obtain ⟨b3, o3, rfl, f3⟩ := fl_at H3R.out hvx
            obtain ⟨b4, o4, rfl, f4⟩ := bl_at H4R.out hbx
            have F3 := Lib.hid f3
            have F4 := Lib.hid f4
            have f1 := cell_below hb (Nat.le_refl _) f1
            have f2 := cell_below hb (Nat.le_refl _) f2
            have f3 := cell_below hb (Nat.le_refl _) f3
            have f4 := cell_below hb (Nat.le_refl _) f4
            have p0 := cell_below hb (Nat.le_refl _) p0
            have p2 := cell_below hb (Nat.le_refl _) p2
            have k0 := cell_below hb (Nat.le_refl _) k0
            have k1 := cell_below hb (Nat.le_refl _) k1
            have hk0 : (0 : Int) ≤ (k : Int) := Int.natCast_nonneg _
            have hk1 : (k : Int) < (V.length : Int) := by omega
            have HRB := Lib.hid (fun w => rbits_any x w)
            rw [hcx] at HRB
            have hFN := fun w' (hb : Sl tenc w' v l) => fn_any fn v l (s + (k : Int) * st - off - len) (s + (k : Int) * st - off) w' hb (by omega) (by omega) (by omega)
            rw [hfx] at hFN
            have HFN := Lib.hid hFN
            have hss := fun w => rsame_any x x w
            simp only [fsame_self] at hss
            have HSS := Lib.hid hss
            have hw1 : IntKind.i64.wrap ((k : Int) * st) = (k : Int) * st := IntWalk.i64_in _ (by omega)
            have hw2 : IntKind.i64.wrap (s + (k : Int) * st) = s + (k : Int) * st := IntWalk.i64_in _ (by omega)
            have hw3 : IntKind.i64.wrap (s + (k : Int) * st - off) = s + (k : Int) * st - off := IntWalk.i64_in _ (by omega)
            have hw4 : IntKind.i64.wrap (s + (k : Int) * st - off - len) = s + (k : Int) * st - off - len := IntWalk.i64_in _ (by omega)
            have HBW := Lib.hid (HB5.out.trans (hb.mono HB5.out.size))
            clear hfx hcx hvx hbx hFN hss
            go_wp2_with fail
            go_quiet ((go_at_call 9; first | refine qs (HRB.out _) | refine quiet_same (HRB.out _)))
            go_wp2_with fail
            refine (HFN.out _ (H.out.below (below_drewN HBW.out _) (Nat.le_refl _))).mono ?_
            rintro y w6 ⟨rfl, hb6⟩
            have hB6 : Below w5.heap.size w5 w6 := (below_drewN HB.out _).trans (hb6.mono (below_drewN HB.out _).size)
            have HB6 := Lib.hid hB6
            have f3 := cell_below hB6 (Nat.le_refl _) F3.out
            have f4 := cell_below hB6 (Nat.le_refl _) F4.out
            clear hb6 hB6
            go_wp2_with fail
            refine (HSS.out _).mono ?_
            rintro y w7 ⟨rfl, rfl⟩
            go_wp2_with fail
            go_roundw
            case rel => exact ⟨k + 1, by omega, by go_num, HB6.out⟩
            case measure => simp [intOf]; omega
        · obtain rfl : k = V.length := by omega
          have k0 := cell_below hb (Nat.le_refl _) k0
          have k1 := cell_below hb (Nat.le_refl _) k1
          have h1 := H35.out.below hb (Nat.le_refl _)
          have h2 := H45.out.below hb (Nat.le_refl _)
          have h3 := H3R.out.below hb (Nat.le_refl _)
          have h4 := H4R.out.below hb (Nat.le_refl _)
          have hsc := same_cols _ _ _ _ V V B wr h1 h3 h2 h4 rfl
          rw [hB] at hsc
          have HSC := Lib.hid hsc
          have HBW := Lib.hid (HB5.out.trans (hb.mono HB5.out.size))
          clear hsc h1 h2 h3 h4
          go_wp2_with fail
          refine (HSC.out).mono ?_
          rintro y w6 ⟨rfl, hb6⟩
          have HB6 := Lib.hid (HBW.out.trans (hb6.mono HBW.out.size))
          clear hb6
          go_wp2_with fail
          go_ret
          exact ⟨rfl, HB6.out⟩
theorem windowSlides_walk (v : Value) (l : List (Int × Nat)) (s e st fn len off : Int) (w : World) (h : Sl tenc w v l) (hg : Gr.i64B s ∧ Gr.i64B e ∧ Gr.i64B st) (hfn : (Lit.int .i64 fn).wf = true) (hln : (Lit.int .i64 len).wf = true) (hof : (Lit.int .i64 off).wf = true) :
    Calls Try.prog 3 #[v, .agg #[.int .i64 s, .int .i64 e, .int .i64 st], .int .i64 fn, .int .i64 len, .int .i64 off] w fun x w' => x = .returned (.bool true) ∧ Below w.heap.size w w' :=
  slides_walk v l s e st fn len off w h hg.1 hg.2.1 hg.2.2 (i64_wfw hfn) (i64_wfw hln) (i64_wfw hof)
end Go.Proofs.Ytidmbjgnkodiiaa
