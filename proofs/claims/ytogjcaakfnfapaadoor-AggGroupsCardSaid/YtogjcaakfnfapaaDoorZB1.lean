/- How slices of whatever elements are opened. Vectors and groups that came in, opened; the law's Right; two answers of Normal. The guards of chapter 10's laws; two answers of Agg. (Several texts in one file, by merge.py.) -/
import Derived.Test.YtogjcaakfnfapaaDoorZA1
import Derived.ProofKit
import Derived.SizedLaws
import Derived.ChangeSlices
import Derived.Deep.Slices
import Derived.ChangeArms
import Derived.Lib.SmallJoins
import Derived.Test.YtogjcaakfnfapaaDoorZA7
import Derived.Test.YtogjcaakfnfapaaDoorZA4
import Derived.Deep.Strs
import Derived.Test.YtogjcaakfnfapaaDoorZA13
namespace Go.Proofs.YtogjcaakfnfapaaDoor
open Go.RowKit Go.ChangeShapes Go.WideShapes
set_option linter.unusedVariables false
set_option linter.unusedSimpArgs false

theorem add_spot {w : World} {x : Addr} {j : Nat} {u : Value} (h : w.cell? (x.add j) = some u) (hs : x.spot = none) : w.cell? ⟨x.block, x.off + j, none⟩ = some u := by
  obtain ⟨b, off, sp⟩ := x
  subst hs
  rw [Addr.add_lit] at h
  exact h

section
variable {H : Type} {enc : TypeId × Value → H} {P : Program} {w : World} {base : Nat} {spare : Nat → Bool} {held : Bool}

theorem cells_get {base n : Nat} {a : Addr} {cs : List Value} (h : w.cells? base a n = some cs) (hs : a.spot = none) : cs.length = n ∧ ∀ i u, cs[i]? = some u → w.cell? ⟨a.block, a.off + i, none⟩ = some u := by
  unfold World.cells? at h
  split at h
  · have hl : cs.length = n := by simpa using mapM_some_length h
    refine ⟨hl, fun i u hu => ?_⟩
    have hi : i < n := by have := (List.getElem?_eq_some_iff.1 hu).1; omega
    have := mapM_some_get h i i (by simp [hi])
    obtain ⟨b, off, sp⟩ := a
    simp only at hs
    subst hs
    rw [Addr.add_lit] at this
    rw [this]; exact hu
  · cases h

theorem cells_first {base n : Nat} {a : Addr} {cs : List Value} (h : w.cells? base a n = some cs) (h0 : 0 < n) : ∃ u, w.cell? a = some u := by
  unfold World.cells? at h
  split at h
  · have hl : cs.length = n := by simpa using mapM_some_length h
    have h3 := mapM_some_get h 0 0 (by simp [h0])
    exact ⟨cs[0], h3.trans (List.getElem?_eq_getElem (by omega))⟩
  · cases h
theorem pick_list {α : Type} {R : Nat → α → Prop} {len : Nat} (one : ∀ i, i < len → ∃ y, R i y) : ∃ xs : List α, xs.length = len ∧ ∀ i (hi : i < xs.length), R i xs[i] := by
  induction len with
  | zero => exact ⟨[], rfl, fun i hi => by simp at hi⟩
  | succ m ih =>
    obtain ⟨xs, hx, hh⟩ := ih (fun i hi => one i (by omega))
    obtain ⟨y, hy⟩ := one m (by omega)
    refine ⟨xs ++ [y], by simp [hx], fun i hi => ?_⟩
    by_cases h' : i < xs.length
    · rw [List.getElem_append_left h']; exact hh i h'
    · have : i = xs.length := by simp at hi; omega
      subst this
      rw [List.getElem_append_right (Nat.le_refl _)]
      simp only [Nat.sub_self, List.getElem_cons_zero]
      rw [hx]; exact hy

theorem open_sl_cs {α : Type} {encd : α → List Value} {sz : Nat} {t e : TypeId} {fuel : Nat} {cs : List Value} {x : DataW H × List MemPlace} {Good : α → Prop} (ht : P.underlying t = some (.slice e)) (hc : P.cellsOf e = sz) (h0 : 0 < sz) (hsz : ∀ x, (encd x).length = sz)
    (elem : ∀ n cs x, DataW.trod enc P w base spare held n e cs = some x → ∃ a : α, cs = encd a ∧ Good a)
    (h : DataW.trod enc P w base spare held fuel t cs = some x) : ∃ v xs, cs = [v] ∧ Sl encd w v xs ∧ ∀ a ∈ xs, Good a := by
  rcases DataW.trod_slice ht h with ⟨rfl, _⟩ | ⟨a, len, cap, elems, rest, n, _, rfl, _, hb, hl, hm, hlen, hel, _⟩
  · exact ⟨_, [], rfl, Sl.nil w, by simp⟩
  · rw [hc] at hel
    have one : ∀ i, i < len → ∃ y : α, Good y ∧ w.cells? base (a.add (i * sz)) sz = some (encd y) := by
      intro i hi
      have h1 := hel i hi
      have h2 : elems[i]? = some elems[i] := List.getElem?_eq_getElem (by omega)
      rw [h2] at h1
      obtain ⟨cs', h3, h4⟩ := Option.bind_eq_some_iff.1 h1
      obtain ⟨y, rfl, hg⟩ := elem _ _ _ h4
      exact ⟨y, hg, h3⟩
    obtain ⟨xs, hx, hh⟩ := pick_list (R := fun i y => Good y ∧ w.cells? base (a.add (i * sz)) sz = some (encd y)) one
    refine ⟨_, xs, rfl, ⟨some a, cap, by rw [hx], ⟨by omega, by unfold maxLen at hm; omega⟩, (fun e => by cases e), fun hne => ?_⟩, fun y hy => ?_⟩
    · have hpos : 0 < xs.length := List.length_pos_iff.2 hne
      have h1 := (hh 0 hpos).2
      have hsp : a.spot = none := by
        rw [Nat.zero_mul] at h1
        have h2 : (a.add 0) = a := rfl
        rw [h2] at h1
        obtain ⟨u, hu⟩ := cells_first h1 h0
        exact World.cell?_spot hu
      obtain ⟨b, off, sp⟩ := a
      simp only at hsp
      subst hsp
      refine ⟨b, off, rfl, fun j u hu => ?_⟩
      have hj : j < xs.length * sz := by rw [← flat_length hsz]; exact (List.getElem?_eq_some_iff.1 hu).1
      have hk : j / sz < xs.length := Nat.div_lt_of_lt_mul (by rw [Nat.mul_comm]; exact hj)
      have hjj : j = j / sz * sz + j % sz := by rw [Nat.mul_comm]; exact (Nat.div_add_mod j sz).symm
      rw [hjj, flat_get hsz xs _ _ (Nat.mod_lt _ h0) hk] at hu
      have h2 := (hh _ hk).2
      rw [Addr.add_lit] at h2
      have h3 := (cells_get h2 rfl).2 _ _ hu
      rw [hjj, ← Nat.add_assoc]
      exact h3
    · obtain ⟨i, hi, rfl⟩ := List.getElem_of_mem hy
      exact (hh i hi).1
theorem open_sl {α : Type} {encd : α → List Value} {sz b0 : Nat} {t e : TypeId} {r : Reach} {v : Value} {d : DataW H} {ps : List MemPlace} {Good : α → Prop} (ht : P.underlying t = some (.slice e)) (hc : P.cellsOf e = sz) (h0 : 0 < sz) (hsz : ∀ x, (encd x).length = sz)
    (elem : ∀ n cs x, DataW.trod enc P w base spare held n e cs = some x → ∃ a : α, cs = encd a ∧ Good a)
    (hval : Value.okWide P w r b0 t v) (h : DataW.Trod enc P w base spare held t v d ps) : ∃ xs, Sl encd w v xs ∧ ∀ a ∈ xs, Good a := by
  obtain ⟨a, len, cap, rfl⟩ := okWide_slice ht hval
  obtain ⟨fuel, hf⟩ := h
  obtain ⟨v', xs, hv, hs, hg⟩ := open_sl_cs ht hc h0 hsz elem hf
  simp [Value.cells] at hv
  subst hv
  exact ⟨xs, hs, hg⟩
end
end Go.Proofs.YtogjcaakfnfapaaDoor
namespace Go.Proofs.YtogjcaakfnfapaaDoor
open Go Go.RowKit Go.ChangeShapes Go.WideShapes Go.Joins
set_option linter.unusedVariables false
set_option linter.unusedSimpArgs false
set_option maxRecDepth 100000
theorem Tryd.cellsLb : Tryd.prog.cellsOf 69 = 2 := by kernel_rfl
theorem Tryd.cellsLbs : Tryd.prog.cellsOf 40 = 1 := by kernel_rfl
theorem Tryd.cellsPt : Tryd.prog.cellsOf 42 = 2 := by kernel_rfl
theorem Tryd.cellsFl : Tryd.prog.cellsOf 25 = 1 := by kernel_rfl
theorem Tryd.cellsI : Tryd.prog.cellsOf 3 = 1 := by kernel_rfl
theorem Tryd.cellsStrs : Tryd.prog.cellsOf 22 = 1 := by kernel_rfl
theorem Tryd.cellsGr : Tryd.prog.cellsOf 24 = 2 := by kernel_rfl
theorem Tryd.cellsStr : Tryd.prog.cellsOf 9 = 1 := by kernel_rfl
section
variable {H : Type} {enc : TypeId × Value → H} {w : World} {base : Nat} {spare : Nat → Bool} {held : Bool}
theorem trod_float {cs : List Value} {fuel : Nat} {t : TypeId} {k : FloatKind} {P : Program} {x : DataW H × List MemPlace} (ht : P.underlying t = some (.float k)) (h : DataW.trod enc P w base spare held fuel t cs = some x) : ∃ n, cs = [.float k n] ∧ (Lit.float k n).wf = true := by
  cases fuel with
  | zero => simp [DataW.trod] at h
  | succ n =>
    unfold DataW.trod at h
    rw [ht] at h
    split at h <;> simp_all
theorem elem_label (n : Nat) (cs : List Value) (x : DataW H × List MemPlace) (h : DataW.trod enc Tryd.prog w base spare held n 69 cs = some x) : ∃ a : Lb, cs = lenc a ∧ True := by
  obtain ⟨y0, y1, m, hx, hl, h0, h1⟩ := trod_struct2 Tryd.underlying69 h
  rw [Tryd.cellsLb] at hl
  match cs, hl with
  | [c0, c1], _ =>
    obtain ⟨s1, e0, _⟩ := DataW.trod_string Tryd.underlying9 h0
    obtain ⟨s2, e1, _⟩ := DataW.trod_string Tryd.underlying9 h1
    simp [Tryd.cellsStr] at e0 e1
    subst e0 e1
    exact ⟨(s1, s2), rfl, trivial⟩
def PGood (w : World) (a : RPt) : Prop := (∃ l, Sl lenc w a.1 l) ∧ (Lit.float .f64 a.2).wf = true
theorem elem_point (n : Nat) (cs : List Value) (x : DataW H × List MemPlace) (h : DataW.trod enc Tryd.prog w base spare held n 42 cs = some x) : ∃ a : RPt, cs = penc a ∧ PGood w a := by
  obtain ⟨y0, y1, m, hx, hl, h0, h1⟩ := trod_struct2 Tryd.underlying42 h
  rw [Tryd.cellsPt] at hl
  match cs, hl with
  | [c0, c1], _ =>
    obtain ⟨v, xs, e0, hs, -⟩ := open_sl_cs Tryd.underlying40 Tryd.cellsLb (by decide) lenc_len elem_label h0
    obtain ⟨s1, e1, hwf⟩ := trod_float Tryd.underlying25 h1
    simp [Tryd.cellsLbs, Tryd.cellsFl] at e0 e1
    subst e0 e1
    exact ⟨(c0, s1), rfl, ⟨xs, hs⟩, hwf⟩
theorem vs_good {v : Value} {xs : List RPt} (h : Sl penc w v xs) (hg : ∀ a ∈ xs, PGood w a) : ∃ ps, VS w v ps ∧ ∀ p ∈ ps, (Lit.float .f64 p.2).wf = true := by
  obtain ⟨ls, hl, hh⟩ := pick_list (R := fun i (l : List Lb) => ∃ hi : i < xs.length, Sl lenc w xs[i].1 l) (len := xs.length) (fun i hi => by
    obtain ⟨⟨l, hs⟩, -⟩ := hg xs[i] (List.getElem_mem hi)
    exact ⟨l, hi, hs⟩)
  refine ⟨List.zipWith (fun (a : RPt) (l : List Lb) => ((l, a.2) : Pt)) xs ls, ⟨xs, h, by simp [hl], fun k hk h2 => ?_⟩, fun p hp => ?_⟩
  · rw [List.getElem_zipWith]
    obtain ⟨_, hs⟩ := hh k (by omega)
    exact ⟨hs, rfl⟩
  · obtain ⟨k, hk, rfl⟩ := List.mem_iff_getElem.1 hp
    rw [List.getElem_zipWith]
    exact (hg _ (List.getElem_mem _)).2
theorem elem_str (n : Nat) (cs : List Value) (x : DataW H × List MemPlace) (h : DataW.trod enc Tryd.prog w base spare held n 9 cs = some x) : ∃ a : ByteArray, cs = senc1 a ∧ True := by
  obtain ⟨s1, e0, _⟩ := DataW.trod_string Tryd.underlying9 h
  exact ⟨s1, e0, trivial⟩
theorem open_group {r : Reach} {b0 : Nat} {v : Value} {d : DataW H} {ps : List MemPlace} (hval : Value.okWide Tryd.prog w r b0 24 v) (h : DataW.Trod enc Tryd.prog w base spare held 24 v d ps) : ∃ how u xs, v = .agg #[.int .i64 how, u] ∧ Sl senc1 w u xs := by
  obtain ⟨cs, rfl, hsz⟩ := okWide_struct Tryd.underlying24 hval
  obtain ⟨fuel, hf⟩ := h
  obtain ⟨y0, y1, m, hx, hl, h0, h1⟩ := trod_struct2 Tryd.underlying24 hf
  have hl3 : cs.toList.length = 2 := by simpa [Tryd.cellsGr] using hsz
  obtain ⟨l, rfl⟩ : ∃ l : List Value, cs = l.toArray := ⟨cs.toList, by simp⟩
  simp only [Value.cells] at h0 h1
  simp only [List.toList_toArray] at hl3 h0 h1
  match l, hl3 with
  | [c0, c1], _ =>
    obtain ⟨se, e0, _⟩ := DataW.trod_int Tryd.underlying3 h0
    obtain ⟨u, xs, e1, hs, _⟩ := open_sl_cs Tryd.underlying22 Tryd.cellsStr (by decide) senc1_len elem_str h1
    simp [Tryd.cellsI, Tryd.cellsStrs] at e0 e1
    subst e0 e1
    exact ⟨se, _, xs, rfl, hs⟩
theorem open_points {r : Reach} {b0 : Nat} {v : Value} {d : DataW H} {ps : List MemPlace} (hval : Value.okWide Tryd.prog w r b0 26 v) (h : DataW.Trod enc Tryd.prog w base spare held 26 v d ps) : ∃ ps, VS w v ps ∧ ∀ p ∈ ps, (Lit.float .f64 p.2).wf = true := by
  obtain ⟨xs, h, hg⟩ := open_sl Tryd.underlying26 Tryd.cellsPt (by decide) penc_len elem_point hval h
  exact vs_good h hg
theorem open_vec {r : Reach} {b0 : Nat} {v : Value} {d : DataW H} {ps : List MemPlace} (hval : Value.okWide Tryd.prog w r b0 27 v) (h : DataW.Trod enc Tryd.prog w base spare held 27 v d ps) : ∃ ps, VS w v ps ∧ ∀ p ∈ ps, (Lit.float .f64 p.2).wf = true := by
  obtain ⟨xs, h, hg⟩ := open_sl Tryd.underlying27 Tryd.cellsPt (by decide) penc_len elem_point hval h
  exact vs_good h hg
end
theorem vsame_refl (q : List Pt) : vsameL q q = true := vsame_yes ⟨rfl, fun k h _ => ⟨cmpL_refl _, by unfold fsame; simp⟩⟩
theorem few_all {ps : List Pt} (h : vfewL ps = true) : ps.length ≤ 60 ∧ ∀ p ∈ ps, fewL p.1 = true := by
  unfold vfewL at h
  rw [Bool.and_eq_true] at h
  exact ⟨of_decide_eq_true h.1, fun p hp => List.all_eq_true.1 h.2 p hp⟩
/-- Two answers of Normal to the same points are one. -/
theorem nr_two {ps : List Pt} {e f : Ending} {w w' W : World} (h : NR ps e w) (h' : NR ps f w') (hb : Below w.heap.size w W) (hb' : Below w'.heap.size w' W) :
    ∃ v u q n, e = .returned (.tuple #[v, .int .i64 n]) ∧ f = .returned (.tuple #[u, .int .i64 n]) ∧ VS W v q ∧ VS W u q ∧ ((n = 0 ∧ Strict q ∧ (∀ p ∈ q, rightL p.1 = true) ∧ q.Perm (ps.map canonP)) ∨ (n ≠ 0 ∧ q = [] ∧ v = .slice none 0 0 ∧ ¬ ((∀ p ∈ ps, rightL p.1 = true) ∧ ∃ q : List Pt, q.Perm (ps.map canonP) ∧ Strict q))) := by
  rcases h with ⟨⟨p, hp, h1⟩, rfl⟩ | ⟨h0, h1, rfl⟩ | ⟨h0, q, v, h1, h2, rfl, h4⟩
  · rcases h' with ⟨-, rfl⟩ | ⟨g0, -⟩ | ⟨g0, -⟩
    · exact ⟨_, _, [], 1, rfl, rfl, VS.nil _, VS.nil _, .inr ⟨by decide, rfl, rfl, fun hh => by rw [hh.1 p hp] at h1; cases h1⟩⟩
    · rw [g0 p hp] at h1; cases h1
    · rw [g0 p hp] at h1; cases h1
  · rcases h' with ⟨⟨p, hp, g1⟩, -⟩ | ⟨g0, g1, rfl⟩ | ⟨g0, q, v, g1, g2, -⟩
    · rw [h0 p hp] at g1; cases g1
    · exact ⟨_, _, [], 4, rfl, rfl, VS.nil _, VS.nil _, .inr ⟨by decide, rfl, rfl, fun ⟨_, q, a, b⟩ => h1 q a b⟩⟩
    · exact absurd g2 (h1 _ g1)
  · rcases h' with ⟨⟨p, hp, g1⟩, -⟩ | ⟨g0, g1, rfl⟩ | ⟨g0, q', v', g1, g2, rfl, g4⟩
    · rw [h0 p hp] at g1; cases g1
    · exact absurd h2 (g1 _ h1)
    · have he : q' = q := strictp_unique (g1.trans h1.symm) g2 h2
      subst he
      refine ⟨v, v', q', 0, rfl, rfl, h4.below hb (Nat.le_refl _), g4.below hb' (Nat.le_refl _), .inl ⟨rfl, h2, fun p hp => ?_, h1⟩⟩
      obtain ⟨r, hr, rfl⟩ := List.mem_map.1 (h1.subset hp)
      exact h0 r hr
theorem strict_vright {q : List Pt} (h : Strict q) (hr : ∀ p ∈ q, rightL p.1 = true) : vrightL q = true := vright_yes fun k hk => ⟨hr _ (List.getElem_mem hk), fun h0 => List.pairwise_iff_getElem.1 h (k - 1) k (by omega) hk (by omega)⟩
theorem lright_any (v : Value) (ps : List Pt) (w : World) (h : VS w v ps) :
    Calls Tryd.prog 11 #[v] w fun e w' => e = .returned (.bool (vfewL ps && vrightL ps)) ∧ ∃ n, w' = w.drewN n := by
  have HF := Lib.hid (vfew_any v ps w h)
  have HR := Lib.hid (rvright_any v ps w h)
  clear h
  obtain ⟨f, hf⟩ : ∃ f, f = vfewL ps := ⟨_, rfl⟩
  rw [← hf] at HF ⊢
  clear hf
  cases f with
  | false =>
    go_enter Tryd.func11, Tryd.ntmps11
    go_wp2_with fail
    refine HF.out.mono ?_
    rintro e w1 ⟨rfl, rfl⟩
    go_wp2_with fail
    go_ret
    exact ⟨rfl, 0, rfl⟩
  | true =>
    go_enter Tryd.func11, Tryd.ntmps11
    go_wp2_with fail
    refine HF.out.mono ?_
    rintro e w1 ⟨rfl, rfl⟩
    go_wp2_with fail
    refine HR.out.mono ?_
    rintro e w2 ⟨rfl, n, rfl⟩
    go_wp2_with fail
    go_ret
    exact ⟨rfl, n, rfl⟩
end Go.Proofs.YtogjcaakfnfapaaDoor
namespace Go.Proofs.YtogjcaakfnfapaaDoor
open Go Go.RowKit
set_option linter.unusedVariables false
set_option linter.unusedSimpArgs false
set_option maxRecDepth 100000
/-- What few says of a grouping's names. -/
def FewR (names : List ByteArray) (w : World) (e : Ending) (w' : World) : Prop := ∃ b, e = .returned (.bool b) ∧ (b = true → names.length ≤ 40 ∧ ∀ s ∈ names, s.size ≤ 300) ∧ Below w.heap.size w w'
set_option maxHeartbeats 2000000 in
theorem gfew_any (how : Int) (vn : Value) (names : List ByteArray) (w : World) (hn : Sl senc1 w vn names) :
    Calls Tryd.prog 12 #[.agg #[.int .i64 how, vn]] w (FewR names w) := by
  obtain ⟨a, cap, rfl, hlen, hc⟩ := hn.strings
  have hc2 : ∀ k, k < names.length → ∃ b off, a = some ⟨b, off, none⟩ ∧ w.cell? ⟨b, off + k, none⟩ = some (.string (nx names k)) := fun k hk => by
    obtain ⟨b, off, e, hd⟩ := hc k hk
    exact ⟨b, off, e, by rw [hd k hk, nx_at hk]⟩
  have HC := Lib.hid hc2
  clear hn hc hc2
  obtain ⟨n, hnn⟩ : ∃ n, n = names.length := ⟨_, rfl⟩
  rw [← hnn] at hlen ⊢
  have HNN := Lib.hid hnn
  clear hnn
  go_enter Tryd.func12, Tryd.ntmps12
  go_wp2_with fail
  obtain ⟨B, hB⟩ : ∃ B, B = w.heap.size := ⟨_, rfl⟩
  have hb1 : Below w.heap.size w (w.alloc (.cells #[.int .i64 how, .slice a n cap] 24)) := (Below.refl _ _).alloc (Nat.le_refl _) _
  have g0 : (w.alloc (.cells #[.int .i64 how, .slice a n cap] 24)).cell? ⟨B, 1, none⟩ = some (.slice a n cap) := by rw [hB]; simp
  generalize w.alloc (.cells #[.int .i64 how, .slice a n cap] 24) = w1 at hb1 g0 ⊢
  rw [← hB]
  have HB1 := Lib.hid hb1
  clear hb1 hB
  go_loopw [3] (fun i wr => ∃ k : Nat, k ≤ n ∧ k ≤ 41 ∧ i = .int .i64 k ∧ Hid (∀ j, j < k → (nx names j).size ≤ 300) ∧ wr = w1) (fun i _ => n - (intOf i).toNat)
  case atStart => exact ⟨0, Nat.zero_le _, Nat.zero_le _, rfl, (fun j h => absurd h (Nat.not_lt_zero _)), rfl⟩
  case round =>
    obtain ⟨k, hk, hk41, rfl, HJ, rfl⟩ := hrel
    have h00 : (0 : Int) ≤ (k : Int) := by omega
    by_cases hlt : k < n
    · have hltz : (k : Int) < (n : Int) := by omega
      by_cases h40 : k ≤ 40
      · have h40z : (k : Int) ≤ 40 := by omega
        obtain ⟨b, off, rfl, q⟩ := HC.out k (by have := HNN.out; omega)
        have q0 := cell_below HB1.out (Nat.le_refl _) q
        obtain ⟨x, hx⟩ : ∃ x, x = nx names k := ⟨_, rfl⟩
        rw [← hx] at q0
        have HX := Lib.hid hx
        clear q hx
        by_cases hs : 300 < x.size
        · have hsz : (300 : Int) < (x.size : Int) := by omega
          go_wp2_with fail
          go_ret
          exact ⟨false, rfl, (fun e => by cases e), HB1.out⟩
        · have hsz : ¬ (300 : Int) < (x.size : Int) := by omega
          have hs2 : x.size ≤ 300 := by omega
          go_wp2_with fail
          go_roundw
          case rel => exact ⟨k + 1, by omega, by omega, by go_num, (fun j hj => by
            by_cases e : j = k
            · subst e; rw [← HX.out]; exact hs2
            · exact HJ.out j (by omega)), by trivial⟩
          case measure => simp [intOf]; omega
      · have h40z : ¬ (k : Int) ≤ 40 := by omega
        have h40n : ¬ (n : Int) ≤ 40 := by omega
        have h41 : 40 < n := by omega
        go_wp2_with fail
        go_ret
        exact ⟨false, by first | rfl | (simp; omega), (fun e => by cases e), HB1.out⟩
    · have hltz : ¬ (k : Int) < (n : Int) := by omega
      by_cases h40 : n ≤ 40
      · have h40z : (n : Int) ≤ 40 := by omega
        have HAL := Lib.hid (show names.length ≤ 40 ∧ ∀ s ∈ names, s.size ≤ 300 from ⟨by have := HNN.out; omega, fun s hs => by
          obtain ⟨j, hj, rfl⟩ := List.mem_iff_getElem.1 hs
          have := HJ.out j (by have := HNN.out; omega)
          rwa [nx_at hj] at this⟩)
        go_wp2_with fail
        go_ret
        exact ⟨true, by first | rfl | (simp; omega), (fun _ => HAL.out), HB1.out⟩
      · have h40z : ¬ (n : Int) ≤ 40 := by omega
        have h41 : 40 < n := by omega
        go_wp2_with fail
        go_ret
        exact ⟨false, by first | rfl | (simp; omega), (fun e => by cases e), HB1.out⟩
/-- Two answers of Agg to the same are one. -/
theorem aggr_two {op how : Int} {names : List ByteArray} {k : Nat} {ps : List Pt} {e f : Ending} {w w' W : World} (h : AggR op how names k ps e w) (h' : AggR op how names k ps f w') (hb : Below w.heap.size w W) (hb' : Below w'.heap.size w' W) :
    ∃ v u q n, e = .returned (.tuple #[v, .int .i64 n]) ∧ f = .returned (.tuple #[u, .int .i64 n]) ∧ VS W v q ∧ VS W u q := by
  rcases h with ⟨h1, rfl⟩ | ⟨h1, h2, h3⟩
  · rcases h' with ⟨-, rfl⟩ | ⟨g1, g2, -⟩
    · exact ⟨_, _, [], 1, rfl, rfl, VS.nil _, VS.nil _⟩
    · rcases h1 with h1 | h1
      · rw [g1] at h1; cases h1
      · exact absurd g2 h1
  · rcases h' with ⟨g1, -⟩ | ⟨-, -, g3⟩
    · rcases g1 with g1 | g1
      · rw [h1] at g1; cases g1
      · exact absurd h2 g1
    · obtain ⟨v, u, q, n, e1, e2, e3, e4, -⟩ := nr_two h3 g3 hb hb'
      exact ⟨v, u, q, n, e1, e2, e3, e4⟩
theorem fb_of {b : Nat} (h : (Lit.float .f64 b).wf = true) : FB b := by
  unfold Lit.wf at h
  unfold FB
  simpa using h
theorem few_ok {ps : List Pt} (h : vfewL ps = true) (hf : ∀ p ∈ ps, (Lit.float .f64 p.2).wf = true) : (∀ p ∈ ps, PtOk p) ∧ ps.length ≤ 300 := by
  obtain ⟨h1, h2⟩ := few_all h
  refine ⟨fun p hp => ?_, by omega⟩
  have h3 := h2 p hp
  unfold fewL at h3
  simp only [Bool.and_eq_true, decide_eq_true_eq, List.all_eq_true] at h3
  exact ⟨by omega, fun x hx => by have := h3.2 x hx; omega, fb_of (hf p hp)⟩
end Go.Proofs.YtogjcaakfnfapaaDoor
