/- How slices of whatever elements are opened. Vectors and groups that came in, opened; the law's Right; two answers of Normal. The guards of chapter 10's laws; two answers of Agg. Comparisons and operators of values: both sides' walks (printed by gen_vo1.py). slices.Insert at labels: one label into a row of one's own. slices.Insert at labels: the walk. slices.Insert at labels where there is no room. (Several texts in one file, by merge.py.) -/
import Derived.Test.YtogjcaakfnfapaaDoorZA1
import Derived.ProofKit
import Derived.SizedLaws
import Derived.ChangeSlices
import Derived.Deep.Slices
import Derived.ChangeArms
import Derived.Lib.SmallJoins
import Derived.Test.YtogjcaakfnfapaaDoorZA7
import Derived.Test.YtogjcaakfnfapaaDoorZA4
import Derived.Deep.Strs
import Derived.Test.YtogjcaakfnfapaaDoorZA13
import Derived.Test.YtogjcaakfnfapaaDoorZA8
import Derived.Lib.Overlaps
import Derived.Lib.AppendZerosOnto
import Derived.Laws.CopyRow
import Derived.Laws.Externs
import Derived.Outline
import Derived.Laws.CopyOwn
import Derived.Deep.RegionLaw
namespace Go.Proofs.YtogjcaakfnfapaaDoor
open Go.RowKit Go.ChangeShapes Go.WideShapes
set_option linter.unusedVariables false
set_option linter.unusedSimpArgs false

theorem add_spot {w : World} {x : Addr} {j : Nat} {u : Value} (h : w.cell? (x.add j) = some u) (hs : x.spot = none) : w.cell? ⟨x.block, x.off + j, none⟩ = some u := by
  obtain ⟨b, off, sp⟩ := x
  subst hs
  rw [Addr.add_lit] at h
  exact h

section
variable {H : Type} {enc : TypeId × Value → H} {P : Program} {w : World} {base : Nat} {spare : Nat → Bool} {held : Bool}

theorem cells_get {base n : Nat} {a : Addr} {cs : List Value} (h : w.cells? base a n = some cs) (hs : a.spot = none) : cs.length = n ∧ ∀ i u, cs[i]? = some u → w.cell? ⟨a.block, a.off + i, none⟩ = some u := by
  unfold World.cells? at h
  split at h
  · have hl : cs.length = n := by simpa using mapM_some_length h
    refine ⟨hl, fun i u hu => ?_⟩
    have hi : i < n := by have := (List.getElem?_eq_some_iff.1 hu).1; omega
    have := mapM_some_get h i i (by simp [hi])
    obtain ⟨b, off, sp⟩ := a
    simp only at hs
    subst hs
    rw [Addr.add_lit] at this
    rw [this]; exact hu
  · cases h

theorem cells_first {base n : Nat} {a : Addr} {cs : List Value} (h : w.cells? base a n = some cs) (h0 : 0 < n) : ∃ u, w.cell? a = some u := by
  unfold World.cells? at h
  split at h
  · have hl : cs.length = n := by simpa using mapM_some_length h
    have h3 := mapM_some_get h 0 0 (by simp [h0])
    exact ⟨cs[0], h3.trans (List.getElem?_eq_getElem (by omega))⟩
  · cases h
theorem pick_list {α : Type} {R : Nat → α → Prop} {len : Nat} (one : ∀ i, i < len → ∃ y, R i y) : ∃ xs : List α, xs.length = len ∧ ∀ i (hi : i < xs.length), R i xs[i] := by
  induction len with
  | zero => exact ⟨[], rfl, fun i hi => by simp at hi⟩
  | succ m ih =>
    obtain ⟨xs, hx, hh⟩ := ih (fun i hi => one i (by omega))
    obtain ⟨y, hy⟩ := one m (by omega)
    refine ⟨xs ++ [y], by simp [hx], fun i hi => ?_⟩
    by_cases h' : i < xs.length
    · rw [List.getElem_append_left h']; exact hh i h'
    · have : i = xs.length := by simp at hi; omega
      subst this
      rw [List.getElem_append_right (Nat.le_refl _)]
      simp only [Nat.sub_self, List.getElem_cons_zero]
      rw [hx]; exact hy

theorem open_sl_cs {α : Type} {encd : α → List Value} {sz : Nat} {t e : TypeId} {fuel : Nat} {cs : List Value} {x : DataW H × List MemPlace} {Good : α → Prop} (ht : P.underlying t = some (.slice e)) (hc : P.cellsOf e = sz) (h0 : 0 < sz) (hsz : ∀ x, (encd x).length = sz)
    (elem : ∀ n cs x, DataW.trod enc P w base spare held n e cs = some x → ∃ a : α, cs = encd a ∧ Good a)
    (h : DataW.trod enc P w base spare held fuel t cs = some x) : ∃ v xs, cs = [v] ∧ Sl encd w v xs ∧ ∀ a ∈ xs, Good a := by
  rcases DataW.trod_slice ht h with ⟨rfl, _⟩ | ⟨a, len, cap, elems, rest, n, _, rfl, _, hb, hl, hm, hlen, hel, _⟩
  · exact ⟨_, [], rfl, Sl.nil w, by simp⟩
  · rw [hc] at hel
    have one : ∀ i, i < len → ∃ y : α, Good y ∧ w.cells? base (a.add (i * sz)) sz = some (encd y) := by
      intro i hi
      have h1 := hel i hi
      have h2 : elems[i]? = some elems[i] := List.getElem?_eq_getElem (by omega)
      rw [h2] at h1
      obtain ⟨cs', h3, h4⟩ := Option.bind_eq_some_iff.1 h1
      obtain ⟨y, rfl, hg⟩ := elem _ _ _ h4
      exact ⟨y, hg, h3⟩
    obtain ⟨xs, hx, hh⟩ := pick_list (R := fun i y => Good y ∧ w.cells? base (a.add (i * sz)) sz = some (encd y)) one
    refine ⟨_, xs, rfl, ⟨some a, cap, by rw [hx], ⟨by omega, by unfold maxLen at hm; omega⟩, (fun e => by cases e), fun hne => ?_⟩, fun y hy => ?_⟩
    · have hpos : 0 < xs.length := List.length_pos_iff.2 hne
      have h1 := (hh 0 hpos).2
      have hsp : a.spot = none := by
        rw [Nat.zero_mul] at h1
        have h2 : (a.add 0) = a := rfl
        rw [h2] at h1
        obtain ⟨u, hu⟩ := cells_first h1 h0
        exact World.cell?_spot hu
      obtain ⟨b, off, sp⟩ := a
      simp only at hsp
      subst hsp
      refine ⟨b, off, rfl, fun j u hu => ?_⟩
      have hj : j < xs.length * sz := by rw [← flat_length hsz]; exact (List.getElem?_eq_some_iff.1 hu).1
      have hk : j / sz < xs.length := Nat.div_lt_of_lt_mul (by rw [Nat.mul_comm]; exact hj)
      have hjj : j = j / sz * sz + j % sz := by rw [Nat.mul_comm]; exact (Nat.div_add_mod j sz).symm
      rw [hjj, flat_get hsz xs _ _ (Nat.mod_lt _ h0) hk] at hu
      have h2 := (hh _ hk).2
      rw [Addr.add_lit] at h2
      have h3 := (cells_get h2 rfl).2 _ _ hu
      rw [hjj, ← Nat.add_assoc]
      exact h3
    · obtain ⟨i, hi, rfl⟩ := List.getElem_of_mem hy
      exact (hh i hi).1
theorem open_sl {α : Type} {encd : α → List Value} {sz b0 : Nat} {t e : TypeId} {r : Reach} {v : Value} {d : DataW H} {ps : List MemPlace} {Good : α → Prop} (ht : P.underlying t = some (.slice e)) (hc : P.cellsOf e = sz) (h0 : 0 < sz) (hsz : ∀ x, (encd x).length = sz)
    (elem : ∀ n cs x, DataW.trod enc P w base spare held n e cs = some x → ∃ a : α, cs = encd a ∧ Good a)
    (hval : Value.okWide P w r b0 t v) (h : DataW.Trod enc P w base spare held t v d ps) : ∃ xs, Sl encd w v xs ∧ ∀ a ∈ xs, Good a := by
  obtain ⟨a, len, cap, rfl⟩ := okWide_slice ht hval
  obtain ⟨fuel, hf⟩ := h
  obtain ⟨v', xs, hv, hs, hg⟩ := open_sl_cs ht hc h0 hsz elem hf
  simp [Value.cells] at hv
  subst hv
  exact ⟨xs, hs, hg⟩
end
end Go.Proofs.YtogjcaakfnfapaaDoor
namespace Go.Proofs.YtogjcaakfnfapaaDoor
open Go Go.RowKit Go.ChangeShapes Go.WideShapes Go.Joins
set_option linter.unusedVariables false
set_option linter.unusedSimpArgs false
set_option maxRecDepth 100000
theorem Tryd.cellsLb : Tryd.prog.cellsOf 69 = 2 := by kernel_rfl
theorem Tryd.cellsLbs : Tryd.prog.cellsOf 40 = 1 := by kernel_rfl
theorem Tryd.cellsPt : Tryd.prog.cellsOf 42 = 2 := by kernel_rfl
theorem Tryd.cellsFl : Tryd.prog.cellsOf 25 = 1 := by kernel_rfl
theorem Tryd.cellsI : Tryd.prog.cellsOf 3 = 1 := by kernel_rfl
theorem Tryd.cellsStrs : Tryd.prog.cellsOf 22 = 1 := by kernel_rfl
theorem Tryd.cellsGr : Tryd.prog.cellsOf 24 = 2 := by kernel_rfl
theorem Tryd.cellsStr : Tryd.prog.cellsOf 9 = 1 := by kernel_rfl
section
variable {H : Type} {enc : TypeId × Value → H} {w : World} {base : Nat} {spare : Nat → Bool} {held : Bool}
theorem trod_float {cs : List Value} {fuel : Nat} {t : TypeId} {k : FloatKind} {P : Program} {x : DataW H × List MemPlace} (ht : P.underlying t = some (.float k)) (h : DataW.trod enc P w base spare held fuel t cs = some x) : ∃ n, cs = [.float k n] ∧ (Lit.float k n).wf = true := by
  cases fuel with
  | zero => simp [DataW.trod] at h
  | succ n =>
    unfold DataW.trod at h
    rw [ht] at h
    split at h <;> simp_all
theorem elem_label (n : Nat) (cs : List Value) (x : DataW H × List MemPlace) (h : DataW.trod enc Tryd.prog w base spare held n 69 cs = some x) : ∃ a : Lb, cs = lenc a ∧ True := by
  obtain ⟨y0, y1, m, hx, hl, h0, h1⟩ := trod_struct2 Tryd.underlying69 h
  rw [Tryd.cellsLb] at hl
  match cs, hl with
  | [c0, c1], _ =>
    obtain ⟨s1, e0, _⟩ := DataW.trod_string Tryd.underlying9 h0
    obtain ⟨s2, e1, _⟩ := DataW.trod_string Tryd.underlying9 h1
    simp [Tryd.cellsStr] at e0 e1
    subst e0 e1
    exact ⟨(s1, s2), rfl, trivial⟩
def PGood (w : World) (a : RPt) : Prop := (∃ l, Sl lenc w a.1 l) ∧ (Lit.float .f64 a.2).wf = true
theorem elem_point (n : Nat) (cs : List Value) (x : DataW H × List MemPlace) (h : DataW.trod enc Tryd.prog w base spare held n 42 cs = some x) : ∃ a : RPt, cs = penc a ∧ PGood w a := by
  obtain ⟨y0, y1, m, hx, hl, h0, h1⟩ := trod_struct2 Tryd.underlying42 h
  rw [Tryd.cellsPt] at hl
  match cs, hl with
  | [c0, c1], _ =>
    obtain ⟨v, xs, e0, hs, -⟩ := open_sl_cs Tryd.underlying40 Tryd.cellsLb (by decide) lenc_len elem_label h0
    obtain ⟨s1, e1, hwf⟩ := trod_float Tryd.underlying25 h1
    simp [Tryd.cellsLbs, Tryd.cellsFl] at e0 e1
    subst e0 e1
    exact ⟨(c0, s1), rfl, ⟨xs, hs⟩, hwf⟩
theorem vs_good {v : Value} {xs : List RPt} (h : Sl penc w v xs) (hg : ∀ a ∈ xs, PGood w a) : ∃ ps, VS w v ps ∧ ∀ p ∈ ps, (Lit.float .f64 p.2).wf = true := by
  obtain ⟨ls, hl, hh⟩ := pick_list (R := fun i (l : List Lb) => ∃ hi : i < xs.length, Sl lenc w xs[i].1 l) (len := xs.length) (fun i hi => by
    obtain ⟨⟨l, hs⟩, -⟩ := hg xs[i] (List.getElem_mem hi)
    exact ⟨l, hi, hs⟩)
  refine ⟨List.zipWith (fun (a : RPt) (l : List Lb) => ((l, a.2) : Pt)) xs ls, ⟨xs, h, by simp [hl], fun k hk h2 => ?_⟩, fun p hp => ?_⟩
  · rw [List.getElem_zipWith]
    obtain ⟨_, hs⟩ := hh k (by omega)
    exact ⟨hs, rfl⟩
  · obtain ⟨k, hk, rfl⟩ := List.mem_iff_getElem.1 hp
    rw [List.getElem_zipWith]
    exact (hg _ (List.getElem_mem _)).2
theorem elem_str (n : Nat) (cs : List Value) (x : DataW H × List MemPlace) (h : DataW.trod enc Tryd.prog w base spare held n 9 cs = some x) : ∃ a : ByteArray, cs = senc1 a ∧ True := by
  obtain ⟨s1, e0, _⟩ := DataW.trod_string Tryd.underlying9 h
  exact ⟨s1, e0, trivial⟩
theorem open_group {r : Reach} {b0 : Nat} {v : Value} {d : DataW H} {ps : List MemPlace} (hval : Value.okWide Tryd.prog w r b0 24 v) (h : DataW.Trod enc Tryd.prog w base spare held 24 v d ps) : ∃ how u xs, v = .agg #[.int .i64 how, u] ∧ Sl senc1 w u xs := by
  obtain ⟨cs, rfl, hsz⟩ := okWide_struct Tryd.underlying24 hval
  obtain ⟨fuel, hf⟩ := h
  obtain ⟨y0, y1, m, hx, hl, h0, h1⟩ := trod_struct2 Tryd.underlying24 hf
  have hl3 : cs.toList.length = 2 := by simpa [Tryd.cellsGr] using hsz
  obtain ⟨l, rfl⟩ : ∃ l : List Value, cs = l.toArray := ⟨cs.toList, by simp⟩
  simp only [Value.cells] at h0 h1
  simp only [List.toList_toArray] at hl3 h0 h1
  match l, hl3 with
  | [c0, c1], _ =>
    obtain ⟨se, e0, _⟩ := DataW.trod_int Tryd.underlying3 h0
    obtain ⟨u, xs, e1, hs, _⟩ := open_sl_cs Tryd.underlying22 Tryd.cellsStr (by decide) senc1_len elem_str h1
    simp [Tryd.cellsI, Tryd.cellsStrs] at e0 e1
    subst e0 e1
    exact ⟨se, _, xs, rfl, hs⟩
theorem open_points {r : Reach} {b0 : Nat} {v : Value} {d : DataW H} {ps : List MemPlace} (hval : Value.okWide Tryd.prog w r b0 26 v) (h : DataW.Trod enc Tryd.prog w base spare held 26 v d ps) : ∃ ps, VS w v ps ∧ ∀ p ∈ ps, (Lit.float .f64 p.2).wf = true := by
  obtain ⟨xs, h, hg⟩ := open_sl Tryd.underlying26 Tryd.cellsPt (by decide) penc_len elem_point hval h
  exact vs_good h hg
theorem open_vec {r : Reach} {b0 : Nat} {v : Value} {d : DataW H} {ps : List MemPlace} (hval : Value.okWide Tryd.prog w r b0 27 v) (h : DataW.Trod enc Tryd.prog w base spare held 27 v d ps) : ∃ ps, VS w v ps ∧ ∀ p ∈ ps, (Lit.float .f64 p.2).wf = true := by
  obtain ⟨xs, h, hg⟩ := open_sl Tryd.underlying27 Tryd.cellsPt (by decide) penc_len elem_point hval h
  exact vs_good h hg
end
theorem vsame_refl (q : List Pt) : vsameL q q = true := vsame_yes ⟨rfl, fun k h _ => ⟨cmpL_refl _, by unfold fsame; simp⟩⟩
theorem few_all {ps : List Pt} (h : vfewL ps = true) : ps.length ≤ 60 ∧ ∀ p ∈ ps, fewL p.1 = true := by
  unfold vfewL at h
  rw [Bool.and_eq_true] at h
  exact ⟨of_decide_eq_true h.1, fun p hp => List.all_eq_true.1 h.2 p hp⟩
/-- Two answers of Normal to the same points are one. -/
theorem nr_two {ps : List Pt} {e f : Ending} {w w' W : World} (h : NR ps e w) (h' : NR ps f w') (hb : Below w.heap.size w W) (hb' : Below w'.heap.size w' W) :
    ∃ v u q n, e = .returned (.tuple #[v, .int .i64 n]) ∧ f = .returned (.tuple #[u, .int .i64 n]) ∧ VS W v q ∧ VS W u q ∧ ((n = 0 ∧ Strict q ∧ (∀ p ∈ q, rightL p.1 = true) ∧ q.Perm (ps.map canonP)) ∨ (n ≠ 0 ∧ q = [] ∧ v = .slice none 0 0 ∧ ¬ ((∀ p ∈ ps, rightL p.1 = true) ∧ ∃ q : List Pt, q.Perm (ps.map canonP) ∧ Strict q))) := by
  rcases h with ⟨⟨p, hp, h1⟩, rfl⟩ | ⟨h0, h1, rfl⟩ | ⟨h0, q, v, h1, h2, rfl, h4⟩
  · rcases h' with ⟨-, rfl⟩ | ⟨g0, -⟩ | ⟨g0, -⟩
    · exact ⟨_, _, [], 1, rfl, rfl, VS.nil _, VS.nil _, .inr ⟨by decide, rfl, rfl, fun hh => by rw [hh.1 p hp] at h1; cases h1⟩⟩
    · rw [g0 p hp] at h1; cases h1
    · rw [g0 p hp] at h1; cases h1
  · rcases h' with ⟨⟨p, hp, g1⟩, -⟩ | ⟨g0, g1, rfl⟩ | ⟨g0, q, v, g1, g2, -⟩
    · rw [h0 p hp] at g1; cases g1
    · exact ⟨_, _, [], 4, rfl, rfl, VS.nil _, VS.nil _, .inr ⟨by decide, rfl, rfl, fun ⟨_, q, a, b⟩ => h1 q a b⟩⟩
    · exact absurd g2 (h1 _ g1)
  · rcases h' with ⟨⟨p, hp, g1⟩, -⟩ | ⟨g0, g1, rfl⟩ | ⟨g0, q', v', g1, g2, rfl, g4⟩
    · rw [h0 p hp] at g1; cases g1
    · exact absurd h2 (g1 _ h1)
    · have he : q' = q := strictp_unique (g1.trans h1.symm) g2 h2
      subst he
      refine ⟨v, v', q', 0, rfl, rfl, h4.below hb (Nat.le_refl _), g4.below hb' (Nat.le_refl _), .inl ⟨rfl, h2, fun p hp => ?_, h1⟩⟩
      obtain ⟨r, hr, rfl⟩ := List.mem_map.1 (h1.subset hp)
      exact h0 r hr
theorem strict_vright {q : List Pt} (h : Strict q) (hr : ∀ p ∈ q, rightL p.1 = true) : vrightL q = true := vright_yes fun k hk => ⟨hr _ (List.getElem_mem hk), fun h0 => List.pairwise_iff_getElem.1 h (k - 1) k (by omega) hk (by omega)⟩
theorem lright_any (v : Value) (ps : List Pt) (w : World) (h : VS w v ps) :
    Calls Tryd.prog 11 #[v] w fun e w' => e = .returned (.bool (vfewL ps && vrightL ps)) ∧ ∃ n, w' = w.drewN n := by
  have HF := Lib.hid (vfew_any v ps w h)
  have HR := Lib.hid (rvright_any v ps w h)
  clear h
  obtain ⟨f, hf⟩ : ∃ f, f = vfewL ps := ⟨_, rfl⟩
  rw [← hf] at HF ⊢
  clear hf
  cases f with
  | false =>
    go_enter Tryd.func11, Tryd.ntmps11
    go_wp2_with fail
    refine HF.out.mono ?_
    rintro e w1 ⟨rfl, rfl⟩
    go_wp2_with fail
    go_ret
    exact ⟨rfl, 0, rfl⟩
  | true =>
    go_enter Tryd.func11, Tryd.ntmps11
    go_wp2_with fail
    refine HF.out.mono ?_
    rintro e w1 ⟨rfl, rfl⟩
    go_wp2_with fail
    refine HR.out.mono ?_
    rintro e w2 ⟨rfl, n, rfl⟩
    go_wp2_with fail
    go_ret
    exact ⟨rfl, n, rfl⟩
end Go.Proofs.YtogjcaakfnfapaaDoor
namespace Go.Proofs.YtogjcaakfnfapaaDoor
open Go Go.RowKit
set_option linter.unusedVariables false
set_option linter.unusedSimpArgs false
set_option maxRecDepth 100000
/-- What few says of a grouping's names. -/
def FewR (names : List ByteArray) (w : World) (e : Ending) (w' : World) : Prop := ∃ b, e = .returned (.bool b) ∧ (b = true → names.length ≤ 40 ∧ ∀ s ∈ names, s.size ≤ 300) ∧ Below w.heap.size w w'
set_option maxHeartbeats 2000000 in
theorem gfew_any (how : Int) (vn : Value) (names : List ByteArray) (w : World) (hn : Sl senc1 w vn names) :
    Calls Tryd.prog 12 #[.agg #[.int .i64 how, vn]] w (FewR names w) := by
  obtain ⟨a, cap, rfl, hlen, hc⟩ := hn.strings
  have hc2 : ∀ k, k < names.length → ∃ b off, a = some ⟨b, off, none⟩ ∧ w.cell? ⟨b, off + k, none⟩ = some (.string (nx names k)) := fun k hk => by
    obtain ⟨b, off, e, hd⟩ := hc k hk
    exact ⟨b, off, e, by rw [hd k hk, nx_at hk]⟩
  have HC := Lib.hid hc2
  clear hn hc hc2
  obtain ⟨n, hnn⟩ : ∃ n, n = names.length := ⟨_, rfl⟩
  rw [← hnn] at hlen ⊢
  have HNN := Lib.hid hnn
  clear hnn
  go_enter Tryd.func12, Tryd.ntmps12
  go_wp2_with fail
  obtain ⟨B, hB⟩ : ∃ B, B = w.heap.size := ⟨_, rfl⟩
  have hb1 : Below w.heap.size w (w.alloc (.cells #[.int .i64 how, .slice a n cap] 24)) := (Below.refl _ _).alloc (Nat.le_refl _) _
  have g0 : (w.alloc (.cells #[.int .i64 how, .slice a n cap] 24)).cell? ⟨B, 1, none⟩ = some (.slice a n cap) := by rw [hB]; simp
  generalize w.alloc (.cells #[.int .i64 how, .slice a n cap] 24) = w1 at hb1 g0 ⊢
  rw [← hB]
  have HB1 := Lib.hid hb1
  clear hb1 hB
  go_loopw [3] (fun i wr => ∃ k : Nat, k ≤ n ∧ k ≤ 41 ∧ i = .int .i64 k ∧ Hid (∀ j, j < k → (nx names j).size ≤ 300) ∧ wr = w1) (fun i _ => n - (intOf i).toNat)
  case atStart => exact ⟨0, Nat.zero_le _, Nat.zero_le _, rfl, (fun j h => absurd h (Nat.not_lt_zero _)), rfl⟩
  case round =>
    obtain ⟨k, hk, hk41, rfl, HJ, rfl⟩ := hrel
    have h00 : (0 : Int) ≤ (k : Int) := by omega
    by_cases hlt : k < n
    · have hltz : (k : Int) < (n : Int) := by omega
      by_cases h40 : k ≤ 40
      · have h40z : (k : Int) ≤ 40 := by omega
        obtain ⟨b, off, rfl, q⟩ := HC.out k (by have := HNN.out; omega)
        have q0 := cell_below HB1.out (Nat.le_refl _) q
        obtain ⟨x, hx⟩ : ∃ x, x = nx names k := ⟨_, rfl⟩
        rw [← hx] at q0
        have HX := Lib.hid hx
        clear q hx
        by_cases hs : 300 < x.size
        · have hsz : (300 : Int) < (x.size : Int) := by omega
          go_wp2_with fail
          go_ret
          exact ⟨false, rfl, (fun e => by cases e), HB1.out⟩
        · have hsz : ¬ (300 : Int) < (x.size : Int) := by omega
          have hs2 : x.size ≤ 300 := by omega
          go_wp2_with fail
          go_roundw
          case rel => exact ⟨k + 1, by omega, by omega, by go_num, (fun j hj => by
            by_cases e : j = k
            · subst e; rw [← HX.out]; exact hs2
            · exact HJ.out j (by omega)), by trivial⟩
          case measure => simp [intOf]; omega
      · have h40z : ¬ (k : Int) ≤ 40 := by omega
        have h40n : ¬ (n : Int) ≤ 40 := by omega
        have h41 : 40 < n := by omega
        go_wp2_with fail
        go_ret
        exact ⟨false, by first | rfl | (simp; omega), (fun e => by cases e), HB1.out⟩
    · have hltz : ¬ (k : Int) < (n : Int) := by omega
      by_cases h40 : n ≤ 40
      · have h40z : (n : Int) ≤ 40 := by omega
        have HAL := Lib.hid (show names.length ≤ 40 ∧ ∀ s ∈ names, s.size ≤ 300 from ⟨by have := HNN.out; omega, fun s hs => by
          obtain ⟨j, hj, rfl⟩ := List.mem_iff_getElem.1 hs
          have := HJ.out j (by have := HNN.out; omega)
          rwa [nx_at hj] at this⟩)
        go_wp2_with fail
        go_ret
        exact ⟨true, by first | rfl | (simp; omega), (fun _ => HAL.out), HB1.out⟩
      · have h40z : ¬ (n : Int) ≤ 40 := by omega
        have h41 : 40 < n := by omega
        go_wp2_with fail
        go_ret
        exact ⟨false, by first | rfl | (simp; omega), (fun e => by cases e), HB1.out⟩
/-- Two answers of Agg to the same are one. -/
theorem aggr_two {op how : Int} {names : List ByteArray} {k : Nat} {ps : List Pt} {e f : Ending} {w w' W : World} (h : AggR op how names k ps e w) (h' : AggR op how names k ps f w') (hb : Below w.heap.size w W) (hb' : Below w'.heap.size w' W) :
    ∃ v u q n, e = .returned (.tuple #[v, .int .i64 n]) ∧ f = .returned (.tuple #[u, .int .i64 n]) ∧ VS W v q ∧ VS W u q := by
  rcases h with ⟨h1, rfl⟩ | ⟨h1, h2, h3⟩
  · rcases h' with ⟨-, rfl⟩ | ⟨g1, g2, -⟩
    · exact ⟨_, _, [], 1, rfl, rfl, VS.nil _, VS.nil _⟩
    · rcases h1 with h1 | h1
      · rw [g1] at h1; cases h1
      · exact absurd g2 h1
  · rcases h' with ⟨g1, -⟩ | ⟨-, -, g3⟩
    · rcases g1 with g1 | g1
      · rw [h1] at g1; cases g1
      · exact absurd h2 g1
    · obtain ⟨v, u, q, n, e1, e2, e3, e4, -⟩ := nr_two h3 g3 hb hb'
      exact ⟨v, u, q, n, e1, e2, e3, e4⟩
theorem fb_of {b : Nat} (h : (Lit.float .f64 b).wf = true) : FB b := by
  unfold Lit.wf at h
  unfold FB
  simpa using h
theorem few_ok {ps : List Pt} (h : vfewL ps = true) (hf : ∀ p ∈ ps, (Lit.float .f64 p.2).wf = true) : (∀ p ∈ ps, PtOk p) ∧ ps.length ≤ 300 := by
  obtain ⟨h1, h2⟩ := few_all h
  refine ⟨fun p hp => ?_, by omega⟩
  have h3 := h2 p hp
  unfold fewL at h3
  simp only [Bool.and_eq_true, decide_eq_true_eq, List.all_eq_true] at h3
  exact ⟨by omega, fun x hx => by have := h3.2 x hx; omega, fb_of (hf p hp)⟩
end Go.Proofs.YtogjcaakfnfapaaDoor
namespace Go.Proofs.YtogjcaakfnfapaaDoor
open Go Go.RowKit
set_option linter.unusedVariables false
set_option linter.unusedSimpArgs false
set_option maxRecDepth 100000
def holdsF (op : Int) (a b : Nat) : Bool :=
  if op = 5 then FloatKind.f64.format.order a b == some .eq
  else if op = 6 then FloatKind.f64.format.order a b != some .eq
  else if op = 7 then FloatKind.f64.format.order a b == some .gt
  else if op = 8 then FloatKind.f64.format.order a b == some .lt
  else if op = 9 then FloatKind.f64.format.order a b == some .gt || FloatKind.f64.format.order a b == some .eq
  else if op = 10 then FloatKind.f64.format.order a b == some .lt || FloatKind.f64.format.order a b == some .eq
  else false
def opV (op : Int) (a b : Nat) : Nat :=
  if op = 1 then cop .add a b else if op = 2 then cop .sub a b else if op = 3 then cop .mul a b else if op = 4 then cop .quo a b
  else if op < 5 ∨ 10 < op then 0 else if holdsF op a b = true then 4607182418800017408 else 0
def opOk (op : Int) : Bool := decide (1 ≤ op) && decide (op ≤ 10)
theorem holds_any (op : Int) (a b : Nat) (w : World) : Calls Tryd.prog 71 #[.int .i64 op, .float .f64 a, .float .f64 b] w fun e w' => e = .returned (.bool (holdsF op a b)) ∧ w = w' := by
  by_cases h5 : op = 5
  · subst h5
    go_enter Tryd.func71, Tryd.ntmps71
    go_wp2_with fail
    go_ret
    exact ⟨rfl, rfl⟩
  · have g5 : (op == 5) = false := by simpa using h5
    by_cases h6 : op = 6
    · subst h6
      go_enter Tryd.func71, Tryd.ntmps71
      go_wp2_with fail
      go_ret
      exact ⟨rfl, rfl⟩
    · have g6 : (op == 6) = false := by simpa using h6
      by_cases h7 : op = 7
      · subst h7
        go_enter Tryd.func71, Tryd.ntmps71
        go_wp2_with fail
        go_ret
        exact ⟨rfl, rfl⟩
      · have g7 : (op == 7) = false := by simpa using h7
        by_cases h8 : op = 8
        · subst h8
          go_enter Tryd.func71, Tryd.ntmps71
          go_wp2_with fail
          go_ret
          exact ⟨rfl, rfl⟩
        · have g8 : (op == 8) = false := by simpa using h8
          by_cases h9 : op = 9
          · subst h9
            go_enter Tryd.func71, Tryd.ntmps71
            go_wp2_with fail
            go_ret
            exact ⟨rfl, rfl⟩
          · have g9 : (op == 9) = false := by simpa using h9
            by_cases h10 : op = 10
            · subst h10
              go_enter Tryd.func71, Tryd.ntmps71
              go_wp2_with fail
              go_ret
              exact ⟨rfl, rfl⟩
            · have g10 : (op == 10) = false := by simpa using h10
              have hz : holdsF op a b = false := by unfold holdsF; rw [if_neg h5, if_neg h6, if_neg h7, if_neg h8, if_neg h9, if_neg h10]
              rw [hz]
              clear hz
              go_enter Tryd.func71, Tryd.ntmps71
              go_wp2_with fail
              go_ret
              exact ⟨rfl, rfl⟩
set_option maxHeartbeats 2000000 in
theorem op_any (op : Int) (a b : Nat) (w : World) : Calls Tryd.prog 72 #[.int .i64 op, .float .f64 a, .float .f64 b] w fun e w' => e = .returned (.tuple #[.float .f64 (opV op a b), .bool (opOk op)]) ∧ ∃ n, w' = w.drewN n := by
  by_cases h1 : op = 1
  · subst h1
    go_enter Tryd.func72, Tryd.ntmps72
    go_wp2_with fail
    refine (canon_any _ _).mono ?_
    rintro e w1 ⟨rfl, rfl⟩
    rw [canon_fop]
    go_wp2_with fail
    go_ret2
    exact ⟨rfl, _, rfl⟩
  · have g1 : (op == 1) = false := by simpa using h1
    by_cases h2 : op = 2
    · subst h2
      go_enter Tryd.func72, Tryd.ntmps72
      go_wp2_with fail
      refine (canon_any _ _).mono ?_
      rintro e w1 ⟨rfl, rfl⟩
      rw [canon_fop]
      go_wp2_with fail
      go_ret2
      exact ⟨rfl, _, rfl⟩
    · have g2 : (op == 2) = false := by simpa using h2
      by_cases h3 : op = 3
      · subst h3
        go_enter Tryd.func72, Tryd.ntmps72
        go_wp2_with fail
        refine (canon_any _ _).mono ?_
        rintro e w1 ⟨rfl, rfl⟩
        rw [canon_fop]
        go_wp2_with fail
        go_ret2
        exact ⟨rfl, _, rfl⟩
      · have g3 : (op == 3) = false := by simpa using h3
        by_cases h4 : op = 4
        · subst h4
          go_enter Tryd.func72, Tryd.ntmps72
          go_wp2_with fail
          refine (canon_any _ _).mono ?_
          rintro e w1 ⟨rfl, rfl⟩
          rw [canon_fop]
          go_wp2_with fail
          go_ret2
          exact ⟨rfl, _, rfl⟩
        · have g4 : (op == 4) = false := by simpa using h4
          by_cases ha : op < 5
          · have ha2 : decide (op < 5) = true := decide_eq_true ha
            have hv : opV op a b = 0 := by unfold opV; rw [if_neg h1, if_neg h2, if_neg h3, if_neg h4, if_pos (.inl ha)]
            have ho : opOk op = false := by unfold opOk; rw [Bool.and_eq_false_iff]; left; exact decide_eq_false (by omega)
            rw [hv, ho]
            clear hv ho
            go_enter Tryd.func72, Tryd.ntmps72
            go_wp2_with fail
            go_ret2
            exact ⟨rfl, 0, rfl⟩
          · have ha2 : decide (op < 5) = false := decide_eq_false ha
            by_cases hb : 10 < op
            · have hb2 : decide (10 < op) = true := decide_eq_true hb
              have hv : opV op a b = 0 := by unfold opV; rw [if_neg h1, if_neg h2, if_neg h3, if_neg h4, if_pos (.inr hb)]
              have ho : opOk op = false := by unfold opOk; rw [Bool.and_eq_false_iff]; right; exact decide_eq_false (by omega)
              rw [hv, ho]
              clear hv ho
              go_enter Tryd.func72, Tryd.ntmps72
              go_wp2_with fail
              go_ret2
              exact ⟨rfl, 0, rfl⟩
            · have hb2 : decide (10 < op) = false := decide_eq_false hb
              have ho : opOk op = true := by unfold opOk; rw [Bool.and_eq_true]; exact ⟨decide_eq_true (by omega), decide_eq_true (by omega)⟩
              have hv : opV op a b = if holdsF op a b = true then 4607182418800017408 else 0 := by unfold opV; rw [if_neg h1, if_neg h2, if_neg h3, if_neg h4, if_neg (by omega)]
              rw [ho, hv]
              clear ho hv
              have HH := Lib.hid (holds_any op a b w)
              obtain ⟨hr, hrE⟩ : ∃ r, r = holdsF op a b := ⟨_, rfl⟩
              rw [← hrE] at HH ⊢
              clear hrE
              cases hr with
              | true =>
                go_enter Tryd.func72, Tryd.ntmps72
                go_wp2_with fail
                refine HH.out.mono ?_
                rintro e w1 ⟨rfl, rfl⟩
                go_wp2_with fail
                go_ret2
                exact ⟨rfl, 0, rfl⟩
              | false =>
                go_enter Tryd.func72, Tryd.ntmps72
                go_wp2_with fail
                refine HH.out.mono ?_
                rintro e w1 ⟨rfl, rfl⟩
                go_wp2_with fail
                go_ret2
                exact ⟨rfl, 0, rfl⟩
end Go.Proofs.YtogjcaakfnfapaaDoor
namespace Go.Proofs.YtogjcaakfnfapaaDoor
open Go Go.RowKit
set_option linter.unusedVariables false
set_option linter.unusedSimpArgs false
set_option maxRecDepth 100000
/-- copy between rows of elements of k cells. -/
theorem run_copy_rowK {P : Program} (w : World) (dT sT ty elem : TypeId) (k g o dLen dCap : Nat) (a : Addr) (sLen sCap : Nat) (cur : Array Value) (t : TypeId) (cs : List Value)
    (hu : P.underlying dT = some (.slice elem)) (hs : (P.info? elem).map (·.size) = some k)
    (hg : w.heap[g]? = some (.cells cur t (0, 0))) (hn : cs.length = Nat.min sLen dLen * k)
    (hsrc : ∀ j v, cs[j]? = some v → w.cell? (a.add j) = some v) (hfit : o + cs.length ≤ cur.size) (h1 : ∀ v ∈ cs, v.oneCell' = true) :
    (Builtin.copy_ #[dT, sT] ty #[.slice (some ⟨g, o, none⟩) dLen dCap, .slice (some a) sLen sCap]).run P w =
      .ok (goInt (Nat.min sLen dLen)) (w.setRow g (cur.toList.take o ++ cs ++ cur.toList.drop (o + cs.length)).toArray) := by
  have hl := run_loadCells_list (P := P) w a cs hsrc
  have hst := run_storeCells_at P g o t cs 0 cur w hg (by simpa using hfit) h1
  cases hq : P.info? elem with
  | none => simp [hq] at hs
  | some i =>
    have hi : i.size = k := by simpa [hq] using hs
    simp [Builtin.copy_, run_underlying hu, Builtin.lenOf, Builtin.firstCells, sizeOf, typeInfo, hq, hi, ← hn, hl, hst]
theorem wpList_copy_run' {P : Program} (w : World) {ops : Array Oper} {rest : List Oper} {o : Oper} {a : Act} {Q : Exit → Act → World → Prop} (hgd : o.guard = none) (d s : Operand) (t t' : TypeId)
    (ho : o.op = .call { callee := .builtin .copy, args := #[d, s], argTypes := #[t, t'] }) (v u : Value) (hd : a.eval d = v) (hs : a.eval s = u) {v' : Value} {w' : World}
    (hr : (Builtin.copy_ #[t, t'] o.type #[v, u]).run P w = .ok v' w') (h : wpList P ops Q rest (a.put o.dst v') w') : wpList P ops Q (o :: rest) a w :=
  wpList_plain hgd fun _ hK => by
    unfold Oper.wp execOp
    simp only [ho, resolve, invoke, builtin, Sem.run_bind, Sem.run_pure, Result.andThen_ok, List.map_toArray, List.map_cons, List.map_nil, hd, hs, hr]
    exact hK _ _ h
theorem step_copy_run' {P : Program} {ops : Array Oper} {o : Oper} {a : Act} {w : World} {K : Act → World → Prop} {Q : Exit → Act → World → Prop} {E : Prop}
    (hg : o.guard = none) (d x : Operand) (dT sT : TypeId) (hop : o.op = Op.call { callee := Callee.builtin Builtin.copy, args := #[d, x], argTypes := #[dT, sT] })
    (v u : Value) (hd : a.eval d = v) (hx : a.eval x = u) {v' : Value} {w' : World} (hr : (Builtin.copy_ #[dT, sT] o.type #[v, u]).run P w = .ok v' w') (hK : K (a.put o.dst v') w') :
    if Region.wanted o (yielded ops a.tmps) = true then Oper.wp P o a w K Q else E := by
  have hw : Region.wanted o (yielded ops a.tmps) = true := by simp [Region.wanted, hg]
  rw [if_pos hw]
  unfold Oper.wp
  simp [execOp, hop, resolve, invoke, builtin, hd, hx, hr, Result.andThen]
  exact hK
theorem Tryd.sizeLb' (w : World) : (sizeOf 69).run Tryd.prog w = .ok 2 w := by rfl
theorem Sl.row {α : Type} {enc : α → List Value} {w : World} {g cap n : Nat} {t : TypeId} {fr : Nat × Nat} {cur : Array Value} {xs : List α} {R : List Value} (hg : w.heap[g]? = some (.cells cur t fr)) (hc : cur.toList = xs.flatMap enc ++ R) (hn : n = xs.length) (hcap : n ≤ cap ∧ cap ≤ 9223372036854775807) : Sl enc w (.slice (some ⟨g, 0, none⟩) n cap) xs := by
  subst hn
  refine ⟨_, cap, rfl, hcap, (fun e => by cases e), fun _ => ⟨g, 0, rfl, fun j u hu => ?_⟩⟩
  rw [Nat.zero_add, cell_of_row w g j cur t fr hg, ← Array.getElem?_toList, hc, List.getElem?_append_left (List.getElem?_eq_some_iff.1 hu).1]
  exact hu
/-- What the two copies leave of a row. -/
theorem two_copies (T D R X : List Value) (n2 i2 : Nat) (hi : i2 = T.length) (hX : X.length = 2) (hR : 2 ≤ R.length) :
    (((T ++ D ++ R).take (i2 + 2) ++ D ++ (T ++ D ++ R).drop (i2 + 2 + D.length)).take i2 ++ X ++ ((T ++ D ++ R).take (i2 + 2) ++ D ++ (T ++ D ++ R).drop (i2 + 2 + D.length)).drop (i2 + X.length)) = T ++ X ++ D ++ R.drop 2 := by
  subst hi
  have e1 : (T ++ D ++ R).drop (T.length + 2 + D.length) = R.drop 2 := by
    rw [show T.length + 2 + D.length = (T ++ D).length + 2 by rw [List.length_append]; omega, List.drop_append, List.drop_of_length_le (by omega), List.nil_append]
    congr 1; omega
  have e2 : (T ++ D ++ R).take (T.length + 2) = T ++ (D ++ R).take 2 := by
    rw [List.append_assoc, List.take_append, List.take_of_length_le (by omega)]
    congr 2; omega
  have e3 : ((D ++ R).take 2).length = 2 := by rw [List.length_take, List.length_append]; omega
  rw [e1, e2, hX]
  have e4 : (T ++ (D ++ R).take 2 ++ D ++ R.drop 2).take T.length = T := by
    rw [List.append_assoc, List.append_assoc, List.take_append, List.take_of_length_le (Nat.le_refl _)]; simp
  have e5 : (T ++ (D ++ R).take 2 ++ D ++ R.drop 2).drop (T.length + 2) = D ++ R.drop 2 := by
    rw [show T ++ (D ++ R).take 2 ++ D ++ R.drop 2 = (T ++ (D ++ R).take 2) ++ (D ++ R.drop 2) by simp only [List.append_assoc]]
    rw [show T.length + 2 = (T ++ (D ++ R).take 2).length by rw [List.length_append, e3]]
    exact List.drop_left
  rw [e4, e5]
  simp only [List.append_assoc]
end Go.Proofs.YtogjcaakfnfapaaDoor
namespace Go.Proofs.YtogjcaakfnfapaaDoor
open Go Go.RowKit
set_option linter.unusedVariables false
set_option linter.unusedSimpArgs false
set_option maxRecDepth 100000
theorem lenc_two (t y : ByteArray) : ∀ u ∈ [Value.string t, .string y], u.oneCell' = true := by
  intro u hu
  simp at hu
  rcases hu with rfl | rfl <;> rfl
theorem ins_end (v : Value) (base : Nat) (d : List Lb) (t y : ByteArray) (b1 : Nat) (w : World) (hown : w.ownsRow base 69 2 v d.length (d.flatMap lenc)) (hl : d.length ≤ 1000000)
    (hx : w.heap[b1]? = some (.cells #[.string t, .string y] 69 (0, 0))) (hbw : base ≤ w.heap.size) :
    Calls Tryd.prog 125 #[v, .int .i64 d.length, .slice (some ⟨b1, 0, none⟩) 1 1] w fun e w' => ∃ v', e = .returned v' ∧ Sl lenc w' v' (d ++ [(t, y)]) ∧ Below base w w' := by
  obtain ⟨i0, hi, hz0, hz1, hz2⟩ := info_parts Tryd.infoLb
  have HO := Lib.hid hown
  have HN := Lib.hid (World.news_of_block hx)
  clear hx
  obtain ⟨ao, cap, rfl, hcap⟩ : ∃ ao cap, v = .slice ao d.length cap ∧ d.length ≤ cap := by
    rcases hown.2 with ⟨hv, h0⟩ | ⟨g, cap, cur, hv, _, _, hle, _⟩
    · exact ⟨none, 0, by rw [hv, h0], by omega⟩
    · exact ⟨_, _, hv, hle⟩
  have h00 : (0 : Int) ≤ (d.length : Int) := by omega
  go_enter Tryd.func125, Tryd.ntmps125
  go_wp2_with (at_builtin; refine wpList_append_own _ rfl _ _ 40 rfl base 69 i0 (.agg #[.string ⟨#[]⟩, .string ⟨#[]⟩]) 2 32 Tryd.underlying40 hi hz0 hz1 hz2 rfl (by decide) _ _ _ rfl hown ⟨b1, 0, none⟩ 1 1 [.string t, .string y] rfl rfl HN.out (lenc_two t y) (by unfold maxLen; omega) (by omega) hbw ?_)
  all_goals
    intro v' w1 hown' hgrow _
    have hsl : Sl lenc w1 v' (d ++ [(t, y)]) := Sl.own lenc_len (by decide) (by rw [flat_snoc]; exact hown')
    have HSL := Lib.hid hsl
    have HB := Lib.hid ((Below.refl base w).grown hgrow hbw (fun j hj => (HO.out.lt j (by cases ao with | none => simp [Value.ownBlock] at hj | some x => exact hj)).1))
    clear hown hown' hgrow hsl
    go_wp2_with fail
    go_ret
    exact ⟨_, rfl, HSL.out, HB.out⟩
set_option maxHeartbeats 4000000 in
theorem ins_shift (g base cap i : Nat) (d : List Lb) (t y : ByteArray) (b1 : Nat) (w : World) (hown : w.ownsRow base 69 2 (.slice (some ⟨g, 0, none⟩) d.length cap) d.length (d.flatMap lenc)) (hl : d.length ≤ 1000000)
    (hx : w.heap[b1]? = some (.cells #[.string t, .string y] 69 (0, 0))) (hbw : base ≤ w.heap.size) (hne : b1 ≠ g) (hi1 : i < d.length) (hroom : d.length + 1 ≤ cap) :
    Calls Tryd.prog 125 #[.slice (some ⟨g, 0, none⟩) d.length cap, .int .i64 i, .slice (some ⟨b1, 0, none⟩) 1 1] w fun e w' => ∃ v', e = .returned v' ∧ Sl lenc w' v' (d.take i ++ (t, y) :: d.drop i) ∧ Below base w w' := by
  obtain ⟨i0, hi, hz0, hz1, hz2⟩ := info_parts Tryd.infoLb
  obtain ⟨cur, hbg, hg, hcap, hcur, hpre⟩ : ∃ cur : Array Value, base ≤ g ∧ w.heap[g]? = some (.cells cur 69 (0, 0)) ∧ cap ≤ maxLen ∧ cur.size = cap * 2 ∧ cur.toList.take (d.length * 2) = d.flatMap lenc := by
    rcases hown.2 with ⟨hv, h0⟩ | ⟨g', cap', cur, hv, h1, h2, h3, h4, h5, h6⟩
    · cases hv
    · injection hv with e1 e2 e3
      injection e1 with e1
      injection e1 with e1
      subst e1 e3
      exact ⟨cur, h1, h2, h4, h5, h6⟩
  unfold maxLen at hcap
  have h00 : (0 : Int) ≤ (i : Int) := by omega
  have hz2' : ¬ ((i : Int) = (d.length : Int)) := by omega
  have hz3 : ((i : Int) == (d.length : Int)) = false := by simpa using hz2'
  have hov : ∀ lb cb, (callFunc 132 #[.slice (some ⟨b1, 0, none⟩) 1 1, .slice (some ⟨g, (i + 1) * 2, none⟩) lb cb]).run Tryd.prog w = .ok (.value (.bool false)) w := fun lb cb => by
    rw [run_callFunc_extern Tryd.func132 (by kernel_rfl) (by kernel_rfl) (by kernel_rfl) (e := Extern.SlicesOverlaps.overlaps #[40, 40] #[4]) (by kernel_rfl),
      Lib.run_overlaps_apart w 40 4 69 Tryd.underlying40 2 Tryd.sizeLb' ⟨b1, 0, none⟩ ⟨g, (i + 1) * 2, none⟩ 1 1 lb cb hne 69 69 2 cur.size (by simp [World.shape?, hx]) (by simp [World.shape?, hg]) (by rw [hcur]; omega) (by simp [World.frozen?, hx]) (by simp [World.frozen?, hx])]
    rfl
  have hw1 : IntKind.i64.wrap ((i : Int) + 1) = (i : Int) + 1 := by rw [IntKind.wrap_i64]; omega
  have hb1 : (0 : Int) ≤ (i : Int) + 1 := by omega
  have htn : ((i : Int) + 1).toNat = i + 1 := by omega
  have hb2 : ¬ (cap = i + 1) := by omega
  have hb4 : ¬ (cap = i) := by omega
  have hb3 : (i : Int) ≤ (d.length : Int) + 1 := by omega
  have hb5 : (i : Int) + 1 ≤ (d.length : Int) + 1 := by omega
  have hb6 : (i : Int) ≤ (d.length : Int) := by omega
  have hb7 : (i : Int) + 1 ≤ ((d.length + 1 : Nat) : Int) := by omega
  obtain ⟨T, hT⟩ : ∃ T, T = (d.take i).flatMap lenc := ⟨_, rfl⟩
  obtain ⟨D, hD⟩ : ∃ D, D = (d.drop i).flatMap lenc := ⟨_, rfl⟩
  obtain ⟨R, hR⟩ : ∃ R, R = cur.toList.drop (d.length * 2) := ⟨_, rfl⟩
  have hcl : cur.toList = T ++ D ++ R := by
    rw [hT, hD, hR, ← List.flatMap_append, List.take_append_drop, ← hpre, List.take_append_drop]
  have hTl : T.length = i * 2 := by rw [hT, flat_length lenc_len, List.length_take, Nat.min_eq_left (by omega)]
  have hDl : D.length = (d.length - i) * 2 := by rw [hD, flat_length lenc_len, List.length_drop]
  have hRl : 2 ≤ R.length := by rw [hR, List.length_drop]; simp only [Array.length_toList]; omega
  have hcz : cur.size = i * 2 + (d.length - i) * 2 + R.length := by rw [← Array.length_toList, hcl, List.length_append, List.length_append, hTl, hDl]
  have hD1 : ∀ v ∈ D, v.oneCell' = true := by rw [hD]; exact oneCell_flat _
  have hmin : Nat.min (d.length + 1 - i) (d.length - i) = d.length - i := Nat.min_eq_right (by omega)
  have hmin1 : Nat.min 1 (d.length + 1 - i) = 1 := Nat.min_eq_left (by omega)
  have hcp1 : ∀ ty dc sc, (Builtin.copy_ #[40, 40] ty #[.slice (some ⟨g, (i + 1) * 2, none⟩) (d.length - i) dc, .slice (some ⟨g, i * 2, none⟩) (d.length + 1 - i) sc]).run Tryd.prog w.drew = .ok (goInt ((d.length - i : Nat) : Int)) (w.drew.setRow g ((T ++ D ++ R).take (i * 2 + 2) ++ D ++ (T ++ D ++ R).drop (i * 2 + 2 + D.length)).toArray) := fun ty dc sc => by
    have h := run_copy_rowK (P := Tryd.prog) w.drew 40 40 ty 69 2 g ((i + 1) * 2) (d.length - i) dc ⟨g, i * 2, none⟩ (d.length + 1 - i) sc cur 69 D Tryd.underlying40 (by rw [hi]; simp [hz1]) hg (by rw [hDl, hmin])
      (fun j v hj => by
        rw [Addr.add_lit, cell_of_row w.drew g (i * 2 + j) cur _ _ hg, ← Array.getElem?_toList, hcl, List.append_assoc, List.getElem?_append_right (by omega), hTl, List.getElem?_append_left (by have := (List.getElem?_eq_some_iff.1 hj).1; omega), Nat.add_sub_cancel_left]
        exact hj) (by omega) hD1
    rw [h, hcl, hmin, show (i + 1) * 2 = i * 2 + 2 by omega]
  obtain ⟨C1, hC1⟩ : ∃ C1, C1 = ((T ++ D ++ R).take (i * 2 + 2) ++ D ++ (T ++ D ++ R).drop (i * 2 + 2 + D.length)).toArray := ⟨_, rfl⟩
  rw [← hC1] at hcp1
  have hgd : w.drew.heap[g]? = some (.cells cur 69 (0, 0)) := hg
  have hg1 : (w.drew.setRow g C1).heap[g]? = some (.cells C1 69 (0, 0)) := setRow_heap w.drew g cur C1 _ _ hgd
  have hx1 : (w.drew.setRow g C1).heap[b1]? = some (.cells #[.string t, .string y] 69 (0, 0)) := by rw [setRow_other w.drew g b1 C1 (fun e => hne e)]; exact hx
  have hC1z : C1.size = cur.size := by
    rw [hC1, List.size_toArray, List.length_append, List.length_append, List.length_take, List.length_drop, List.length_append, List.length_append, hTl, hDl]
    omega
  have hcp2 : ∀ ty dc, (Builtin.copy_ #[40, 40] ty #[.slice (some ⟨g, i * 2, none⟩) (d.length + 1 - i) dc, .slice (some ⟨b1, 0, none⟩) 1 1]).run Tryd.prog (w.drew.setRow g C1) = .ok (goInt 1) ((w.drew.setRow g C1).setRow g (C1.toList.take (i * 2) ++ [Value.string t, Value.string y] ++ C1.toList.drop (i * 2 + 2)).toArray) := fun ty dc => by
    have h := run_copy_rowK (P := Tryd.prog) (w.drew.setRow g C1) 40 40 ty 69 2 g (i * 2) (d.length + 1 - i) dc ⟨b1, 0, none⟩ 1 1 C1 69 [.string t, .string y] Tryd.underlying40 (by rw [hi]; simp [hz1]) hg1 (by rw [hmin1]; rfl) (World.news_of_block hx1) (by rw [hC1z]; simp; omega) (lenc_two t y)
    rw [h, hmin1]
    rfl
  have hfin : C1.toList.take (i * 2) ++ [Value.string t, Value.string y] ++ C1.toList.drop (i * 2 + 2) = T ++ [Value.string t, Value.string y] ++ D ++ R.drop 2 := by
    rw [hC1]
    exact two_copies T D R [.string t, .string y] 0 (i * 2) hTl.symm rfl hRl
  obtain ⟨W1, hW1⟩ : ∃ W1, W1 = w.drew.setRow g C1 := ⟨_, rfl⟩
  obtain ⟨C2, hC2⟩ : ∃ C2, C2 = C1.toList.take (i * 2) ++ [Value.string t, Value.string y] ++ C1.toList.drop (i * 2 + 2) := ⟨_, rfl⟩
  rw [← hW1, ← hC2] at hcp2
  rw [← hW1] at hcp1
  rw [← hC2] at hfin
  have HSL := Lib.hid (show Sl lenc (W1.setRow g C2.toArray) (.slice (some ⟨g, 0, none⟩) (d.length + 1) cap) (d.take i ++ (t, y) :: d.drop i) from
    Sl.row (g := g) (t := 69) (fr := (0, 0)) (R := R.drop 2) (setRow_heap W1 g C1 C2.toArray _ _ (by rw [hW1]; exact hg1)) (by rw [List.toList_toArray, hfin, List.flatMap_append, List.flatMap_cons, ← hT, ← hD]; simp [lenc]) (by simp; omega) (by omega))
  have HBB := Lib.hid (show Below base w (W1.setRow g C2.toArray) by
    rw [hW1]
    exact below_setRow (below_setRow (below_drewN (Below.refl base w) 1) hbg C1) hbg C2.toArray)
  clear hcl hTl hDl hRl hcz hD1 hC1 hgd hg1 hx1 hC1z hfin hW1 hC2 hT hD hR hpre hcur hg hx hown
  go_enter Tryd.func125, Tryd.ntmps125
  go_wp2_with (simp only [hov])
  go_region_law (refine step_copy_run' rfl _ _ 40 40 rfl _ _ (by simp [Act.eval, Act.put]) (by simp [Act.eval, Act.put]) (hcp1 _ _ _) ?_)
  go_wp2_with (at_builtin; refine wpList_copy_run' _ rfl _ _ 40 40 rfl _ _ rfl rfl (hcp2 _ _) ?_)
  go_ret
  exact ⟨_, rfl, HSL.out, HBB.out⟩
end Go.Proofs.YtogjcaakfnfapaaDoor
namespace Go.Proofs.YtogjcaakfnfapaaDoor
open Go Go.RowKit
set_option linter.unusedVariables false
set_option linter.unusedSimpArgs false
set_option maxRecDepth 100000
theorem two_copies' (T D Z X : List Value) (i2 : Nat) (hi : i2 = T.length) (hX : X.length = 2) (hZ : 2 + D.length ≤ Z.length) :
    (((T ++ Z).take i2 ++ X ++ (T ++ Z).drop (i2 + 2)).take (i2 + 2) ++ D ++ ((T ++ Z).take i2 ++ X ++ (T ++ Z).drop (i2 + 2)).drop (i2 + 2 + D.length)) = T ++ X ++ D ++ (Z.drop 2).drop D.length := by
  subst hi
  have e1 : (T ++ Z).take T.length = T := List.take_left
  have e2 : (T ++ Z).drop (T.length + 2) = Z.drop 2 := by
    rw [List.drop_append, List.drop_of_length_le (by omega), List.nil_append]
    congr 1; omega
  have e3 : (T ++ X).length = T.length + 2 := by rw [List.length_append, hX]
  rw [e1, e2, ← e3, List.take_left, ← List.drop_drop, List.drop_left]
set_option maxHeartbeats 4000000 in
theorem ins_grow (g base cap i : Nat) (d : List Lb) (t y : ByteArray) (b1 : Nat) (w : World) (hown : w.ownsRow base 69 2 (.slice (some ⟨g, 0, none⟩) d.length cap) d.length (d.flatMap lenc)) (hl : d.length ≤ 1000000)
    (hx : w.heap[b1]? = some (.cells #[.string t, .string y] 69 (0, 0))) (hbw : base ≤ w.heap.size) (hi1 : i < d.length) (hroom : cap < d.length + 1) :
    Calls Tryd.prog 125 #[.slice (some ⟨g, 0, none⟩) d.length cap, .int .i64 i, .slice (some ⟨b1, 0, none⟩) 1 1] w fun e w' => ∃ v', e = .returned v' ∧ Sl lenc w' v' (d.take i ++ (t, y) :: d.drop i) ∧ Below base w w' := by
  obtain ⟨i0, hi, hz0, hz1, hz2⟩ := info_parts Tryd.infoLb
  obtain ⟨cur, hbg, hg, hle, hcur, hpre⟩ : ∃ cur : Array Value, base ≤ g ∧ w.heap[g]? = some (.cells cur 69 (0, 0)) ∧ d.length ≤ cap ∧ cur.size = cap * 2 ∧ cur.toList.take (d.length * 2) = d.flatMap lenc := by
    rcases hown.2 with ⟨hv, h0⟩ | ⟨g', cap', cur, hv, h1, h2, h3, h4, h5, h6⟩
    · cases hv
    · injection hv with e1 e2 e3
      injection e1 with e1
      injection e1 with e1
      subst e1 e3
      exact ⟨cur, h1, h2, h3, h5, h6⟩
  obtain rfl : cap = d.length := by omega
  obtain ⟨k, hk⟩ : ∃ k, d.length + 1 = i + k := ⟨d.length + 1 - i, by omega⟩
  have h00 : (0 : Int) ≤ (i : Int) := by omega
  have hz2' : ¬ ((i : Int) = (d.length : Int)) := by omega
  have hz3 : ((i : Int) == (d.length : Int)) = false := by simpa using hz2'
  have hb4 : ¬ (d.length = i) := by omega
  have hb6 : (i : Int) ≤ (d.length : Int) := by omega
  have hd1 : decide ((d.length : Int) < (d.length : Int) + 1) = true := decide_eq_true (by omega)
  obtain ⟨T, hT⟩ : ∃ T, T = (d.take i).flatMap lenc := ⟨_, rfl⟩
  obtain ⟨D, hD⟩ : ∃ D, D = (d.drop i).flatMap lenc := ⟨_, rfl⟩
  have hcl : cur.toList = T ++ D := by
    rw [hT, hD, ← List.flatMap_append, List.take_append_drop, ← hpre, List.take_of_length_le (by rw [Array.length_toList]; omega)]
  have hTl : T.length = i * 2 := by rw [hT, flat_length lenc_len, List.length_take, Nat.min_eq_left (by omega)]
  have hDl : D.length = (d.length - i) * 2 := by rw [hD, flat_length lenc_len, List.length_drop]
  have hD1 : ∀ v ∈ D, v.oneCell' = true := by rw [hD]; exact oneCell_flat _
  have hTc : ∀ j v, T[j]? = some v → w.drew.cell? ((⟨g, 0, none⟩ : Addr).add j) = some v := fun j v hj => by
    rw [Addr.add_lit, Nat.zero_add, cell_of_row w.drew g j cur _ _ hg, ← Array.getElem?_toList, hcl, List.getElem?_append_left (List.getElem?_eq_some_iff.1 hj).1]
    exact hj
  have hold : (Builtin.firstCells i0.size i (.slice (some ⟨g, 0, none⟩) i d.length)).run Tryd.prog w.drew = .ok T.toArray w.drew := by
    rw [hz1]
    exact run_firstCells_some w.drew 2 i ⟨g, 0, none⟩ i d.length T (by rw [hTl]) hTc
  obtain ⟨gc, hgc⟩ : ∃ gc, gc = grownCap w (i + k) d.length 69 := ⟨_, rfl⟩
  obtain ⟨Z, hZ⟩ : ∃ Z : List Value, Z = (Builtin.zeroCells (Value.agg #[.string ⟨#[]⟩, .string ⟨#[]⟩]).cells k ++ Builtin.zeroCells (Value.agg #[.string ⟨#[]⟩, .string ⟨#[]⟩]).cells (gc - (i + k))).toList := ⟨_, rfl⟩
  have hrun : ∀ ty, (Builtin.append_ #[40, 3] ty #[.slice (some ⟨g, 0, none⟩) i d.length, .int .i64 (k : Int)]).run Tryd.prog w = .ok (.slice (some ⟨w.heap.size, 0, none⟩) (i + k) gc) (w.drew.alloc (.cells (T ++ Z).toArray 69)) := fun ty => by
    rw [Lib.run_append_grow_zeros (P := Tryd.prog) w 40 3 ty 69 i0 _ .i64 .i64 Tryd.underlying40 Tryd.underlying3 hi hz0 (some ⟨g, 0, none⟩) i d.length T hold k (by omega) (by omega) (by omega) (by omega) (by rw [hz2]; omega) (by rw [hz2]; exact growslice_fits (by omega) (by omega))]
    rw [← hgc, hZ]
    congr 2
    simp
  have hgce : d.length + 1 ≤ gc := by rw [hgc, hk]; exact grownCap_ge _ _ _ _
  have hgcl : gc ≤ 9223372036854775807 := by
    rw [hgc]
    have hle' := grownCap_le_maxLen w (i + k) d.length 69 (by unfold maxLen; omega)
    unfold maxLen at hle'
    omega
  have hZl : 2 + D.length ≤ Z.length := by
    have h2 : (Value.agg #[.string ⟨#[]⟩, .string ⟨#[]⟩]).cells.size = 2 := rfl
    have h3 : Z.length = k * 2 + (gc - (i + k)) * 2 := by
      have h4 := size_zeroCells (Value.agg #[.string ⟨#[]⟩, .string ⟨#[]⟩]).cells k
      have h5 := size_zeroCells (Value.agg #[.string ⟨#[]⟩, .string ⟨#[]⟩]).cells (gc - (i + k))
      rw [h2] at h4 h5
      rw [hZ, Array.toList_append, List.length_append, Array.length_toList, Array.length_toList, h4, h5]
    rw [h3, hDl]
    omega
  obtain ⟨w2, hw2⟩ : ∃ w2, w2 = w.drew.alloc (.cells (T ++ Z).toArray 69) := ⟨_, rfl⟩
  rw [← hw2] at hrun
  obtain ⟨H, hH⟩ : ∃ H, H = w.heap.size := ⟨_, rfl⟩
  rw [← hH] at hrun
  have hgl : g < w.heap.size := (Array.getElem?_eq_some_iff.1 hg).1
  have hbl : b1 < w.heap.size := (Array.getElem?_eq_some_iff.1 hx).1
  have hbb2 : Below w.heap.size w w2 := by rw [hw2]; exact (below_drewN (Below.refl _ w) 1).alloc (by simp) _
  have hH2 : w2.heap[H]? = some (.cells (T ++ Z).toArray 69 (0, 0)) := by rw [hw2, hH]; exact heap_new w.drew _
  have hg2 : w2.heap[g]? = some (.cells cur 69 (0, 0)) := by rw [hbb2.block g hgl]; exact hg
  have hx2 : w2.heap[b1]? = some (.cells #[.string t, .string y] 69 (0, 0)) := by rw [hbb2.block b1 hbl]; exact hx
  have hmin : Nat.min (d.length - i) (d.length - i) = d.length - i := Nat.min_self _
  have hmin1 : Nat.min 1 k = 1 := Nat.min_eq_left (by omega)
  obtain ⟨C1, hC1⟩ : ∃ C1 : Array Value, C1 = ((T ++ Z).take (i * 2) ++ [Value.string t, Value.string y] ++ (T ++ Z).drop (i * 2 + 2)).toArray := ⟨_, rfl⟩
  have hcp1 : ∀ ty dc, (Builtin.copy_ #[40, 40] ty #[.slice (some ⟨H, i * 2, none⟩) k dc, .slice (some ⟨b1, 0, none⟩) 1 1]).run Tryd.prog w2 = .ok (goInt 1) (w2.setRow H C1) := fun ty dc => by
    have h := run_copy_rowK (P := Tryd.prog) w2 40 40 ty 69 2 H (i * 2) k dc ⟨b1, 0, none⟩ 1 1 (T ++ Z).toArray 69 [.string t, .string y] Tryd.underlying40 (by rw [hi]; simp [hz1]) hH2 (by rw [hmin1]; rfl) (World.news_of_block hx2) (by simp; omega) (lenc_two t y)
    rw [h, hmin1, hC1]
    rfl
  have hC1z : C1.size = (T ++ Z).length := by
    rw [hC1, List.size_toArray, List.length_append, List.length_append, List.length_take, List.length_drop, List.length_append, hTl]
    simp only [List.length_cons, List.length_nil]
    omega
  have hH3 : (w2.setRow H C1).heap[H]? = some (.cells C1 69 (0, 0)) := setRow_heap w2 H _ C1 _ _ hH2
  have hg3 : (w2.setRow H C1).heap[g]? = some (.cells cur 69 (0, 0)) := by rw [setRow_other w2 H g C1 (by omega)]; exact hg2
  obtain ⟨C2, hC2⟩ : ∃ C2 : List Value, C2 = C1.toList.take (i * 2 + 2) ++ D ++ C1.toList.drop (i * 2 + 2 + D.length) := ⟨_, rfl⟩
  obtain ⟨w3, hw3⟩ : ∃ w3, w3 = w2.setRow H C1 := ⟨_, rfl⟩
  rw [← hw3] at hcp1 hH3 hg3
  have hcp2 : ∀ ty dc sc, (Builtin.copy_ #[40, 40] ty #[.slice (some ⟨H, (i + 1) * 2, none⟩) (d.length - i) dc, .slice (some ⟨g, i * 2, none⟩) (d.length - i) sc]).run Tryd.prog w3.drew = .ok (goInt ((d.length - i : Nat) : Int)) (w3.drew.setRow H C2.toArray) := fun ty dc sc => by
    have h := run_copy_rowK (P := Tryd.prog) w3.drew 40 40 ty 69 2 H ((i + 1) * 2) (d.length - i) dc ⟨g, i * 2, none⟩ (d.length - i) sc C1 69 D Tryd.underlying40 (by rw [hi]; simp [hz1]) hH3 (by rw [hDl, hmin])
      (fun j v hj => by
        rw [Addr.add_lit, cell_of_row w3.drew g (i * 2 + j) cur _ _ hg3, ← Array.getElem?_toList, hcl, List.getElem?_append_right (by omega), hTl, Nat.add_sub_cancel_left]
        exact hj) (by rw [hC1z, List.length_append, hTl]; omega) hD1
    rw [h, hmin, hC2, show (i + 1) * 2 = i * 2 + 2 by omega]
  have hfin : C2 = T ++ [Value.string t, Value.string y] ++ D ++ (Z.drop 2).drop D.length := by
    rw [hC2, hC1]
    exact two_copies' T D Z [Value.string t, Value.string y] (i * 2) hTl.symm rfl hZl
  have HSL := Lib.hid (show Sl lenc (w3.drew.setRow H C2.toArray) (.slice (some ⟨H, 0, none⟩) (i + k) gc) (d.take i ++ (t, y) :: d.drop i) from
    Sl.row (g := H) (t := 69) (fr := (0, 0)) (R := (Z.drop 2).drop D.length) (setRow_heap w3.drew H C1 C2.toArray _ _ hH3) (by rw [List.toList_toArray, hfin, List.flatMap_append, List.flatMap_cons, ← hT, ← hD]; simp [lenc]) (by simp; omega) (by omega))
  have HBB := Lib.hid (show Below base w (w3.drew.setRow H C2.toArray) by
    rw [hw3]
    exact below_setRow (below_drewN (below_setRow (Below.trans (Below.refl base w) (hbb2.mono (by omega))) (by omega) C1) 1) (by omega) C2.toArray)
  have hw1 : IntKind.i64.wrap ((i : Int) + 1) = (i : Int) + 1 := by rw [IntKind.wrap_i64]; omega
  have hb1 : (0 : Int) ≤ (i : Int) + 1 := by omega
  have htn : ((i : Int) + 1).toNat = i + 1 := by omega
  have hb2 : ¬ (gc = i + 1) := by omega
  have hb3 : ¬ (gc = i) := by omega
  have hb5 : (i : Int) + 1 ≤ ((i + k : Nat) : Int) := by omega
  have hb7 : (i : Int) + 1 ≤ (i : Int) + (k : Int) := by omega
  have hb8 : (i : Int) ≤ (i : Int) + (k : Int) := by omega
  have hkk : (d.length : Int) + 1 - (i : Int) = (k : Int) := by omega
  have hk1 : i + k - (i + 1) = d.length - i := by omega
  have hk2 : i + k - i = k := by omega
  clear hcl hTl hDl hD1 hTc hold hgc hZ hgce hgcl hZl hw2 hH hgl hbl hbb2 hH2 hg2 hx2 hmin hmin1 hC1 hC1z hH3 hg3 hC2 hw3 hfin hT hD hpre hcur hg hx hown hroom hle
  have HK := Lib.hid hk
  clear hk
  go_enter Tryd.func125, Tryd.ntmps125
  go_wp2_with (at_builtin; refine Lib.wpList_append_run _ rfl _ _ _ _ rfl _ _ rfl rfl _ _ (hrun _) ?_)
  go_region_law (refine step_copy_run' rfl _ _ 40 40 rfl _ _ (by simp [Act.eval, Act.put]) (by simp [Act.eval, Act.put]) (hcp2 _ _ _) ?_)
  go_wp2_with fail
  go_ret
  exact ⟨_, rfl, HSL.out, HBB.out⟩
end Go.Proofs.YtogjcaakfnfapaaDoor
