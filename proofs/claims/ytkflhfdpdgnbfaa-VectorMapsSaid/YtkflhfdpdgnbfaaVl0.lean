/- Points that came in, opened; two answers of Normal. -/
import Derived.Test.YtkflhfdpdgnbfaaVo7
import Derived.Test.YtkflhfdpdgnbfaaOs
import Derived.Deep.Strs
namespace Go.Proofs.Ytkflhfdpdgnbfaa
open Go Go.RowKit Go.ChangeShapes Go.WideShapes Go.Joins
set_option linter.unusedVariables false
set_option linter.unusedSimpArgs false
set_option maxRecDepth 100000
theorem Try.cellsLb : Try.prog.cellsOf 49 = 2 := by kernel_rfl
theorem Try.cellsLbs : Try.prog.cellsOf 33 = 1 := by kernel_rfl
theorem Try.cellsPt : Try.prog.cellsOf 35 = 2 := by kernel_rfl
theorem Try.cellsFl : Try.prog.cellsOf 32 = 1 := by kernel_rfl
theorem Try.cellsStr : Try.prog.cellsOf 9 = 1 := by kernel_rfl
section
variable {H : Type} {enc : TypeId × Value → H} {w : World} {base : Nat} {spare : Nat → Bool} {held : Bool}
theorem trod_float {cs : List Value} {fuel : Nat} {t : TypeId} {k : FloatKind} {P : Program} {x : DataW H × List MemPlace} (ht : P.underlying t = some (.float k)) (h : DataW.trod enc P w base spare held fuel t cs = some x) : ∃ n, cs = [.float k n] ∧ (Lit.float k n).wf = true := by
  cases fuel with
  | zero => simp [DataW.trod] at h
  | succ n =>
    unfold DataW.trod at h
    rw [ht] at h
    split at h <;> simp_all
theorem elem_label (n : Nat) (cs : List Value) (x : DataW H × List MemPlace) (h : DataW.trod enc Try.prog w base spare held n 49 cs = some x) : ∃ a : Lb, cs = lenc a ∧ True := by
  obtain ⟨y0, y1, m, hx, hl, h0, h1⟩ := trod_struct2 Try.underlying49 h
  rw [Try.cellsLb] at hl
  match cs, hl with
  | [c0, c1], _ =>
    obtain ⟨s1, e0, _⟩ := DataW.trod_string Try.underlying9 h0
    obtain ⟨s2, e1, _⟩ := DataW.trod_string Try.underlying9 h1
    simp [Try.cellsStr] at e0 e1
    subst e0 e1
    exact ⟨(s1, s2), rfl, trivial⟩
def PGood (w : World) (a : RPt) : Prop := (∃ l, Sl lenc w a.1 l) ∧ (Lit.float .f64 a.2).wf = true
theorem elem_point (n : Nat) (cs : List Value) (x : DataW H × List MemPlace) (h : DataW.trod enc Try.prog w base spare held n 35 cs = some x) : ∃ a : RPt, cs = penc a ∧ PGood w a := by
  obtain ⟨y0, y1, m, hx, hl, h0, h1⟩ := trod_struct2 Try.underlying35 h
  rw [Try.cellsPt] at hl
  match cs, hl with
  | [c0, c1], _ =>
    obtain ⟨v, xs, e0, hs, -⟩ := open_sl_cs Try.underlying33 Try.cellsLb (by decide) lenc_len elem_label h0
    obtain ⟨s1, e1, hwf⟩ := trod_float Try.underlying32 h1
    simp [Try.cellsLbs, Try.cellsFl] at e0 e1
    subst e0 e1
    exact ⟨(c0, s1), rfl, ⟨xs, hs⟩, hwf⟩
theorem vs_good {v : Value} {xs : List RPt} (h : Sl penc w v xs) (hg : ∀ a ∈ xs, PGood w a) : ∃ ps, VS w v ps ∧ ∀ p ∈ ps, (Lit.float .f64 p.2).wf = true := by
  obtain ⟨ls, hl, hh⟩ := pick_list (R := fun i (l : List Lb) => ∃ hi : i < xs.length, Sl lenc w xs[i].1 l) (len := xs.length) (fun i hi => by
    obtain ⟨⟨l, hs⟩, -⟩ := hg xs[i] (List.getElem_mem hi)
    exact ⟨l, hi, hs⟩)
  refine ⟨List.zipWith (fun (a : RPt) (l : List Lb) => ((l, a.2) : Pt)) xs ls, ⟨xs, h, by simp [hl], fun k hk h2 => ?_⟩, fun p hp => ?_⟩
  · rw [List.getElem_zipWith]
    obtain ⟨_, hs⟩ := hh k (by omega)
    exact ⟨hs, rfl⟩
  · obtain ⟨k, hk, rfl⟩ := List.mem_iff_getElem.1 hp
    rw [List.getElem_zipWith]
    exact (hg _ (List.getElem_mem _)).2
theorem open_points {r : Reach} {b0 : Nat} {v : Value} {d : DataW H} {ps : List MemPlace} (hval : Value.okWide Try.prog w r b0 22 v) (h : DataW.Trod enc Try.prog w base spare held 22 v d ps) : ∃ ps, VS w v ps ∧ ∀ p ∈ ps, (Lit.float .f64 p.2).wf = true := by
  obtain ⟨xs, h, hg⟩ := open_sl Try.underlying22 Try.cellsPt (by decide) penc_len elem_point hval h
  exact vs_good h hg
theorem open_vec {r : Reach} {b0 : Nat} {v : Value} {d : DataW H} {ps : List MemPlace} (hval : Value.okWide Try.prog w r b0 25 v) (h : DataW.Trod enc Try.prog w base spare held 25 v d ps) : ∃ ps, VS w v ps ∧ ∀ p ∈ ps, (Lit.float .f64 p.2).wf = true := by
  obtain ⟨xs, h, hg⟩ := open_sl Try.underlying25 Try.cellsPt (by decide) penc_len elem_point hval h
  exact vs_good h hg
end
theorem vsame_refl (q : List Pt) : vsameL q q = true := vsame_yes ⟨rfl, fun k h _ => ⟨cmpL_refl _, by unfold fsame; simp⟩⟩
theorem few_all {ps : List Pt} (h : vfewL ps = true) : ps.length ≤ 60 ∧ ∀ p ∈ ps, fewL p.1 = true := by
  unfold vfewL at h
  rw [Bool.and_eq_true] at h
  exact ⟨of_decide_eq_true h.1, fun p hp => List.all_eq_true.1 h.2 p hp⟩
/-- Two answers of Normal to the same points are one. -/
theorem nr_two {ps : List Pt} {e f : Ending} {w w' W : World} (h : NR ps e w) (h' : NR ps f w') (hb : Below w.heap.size w W) (hb' : Below w'.heap.size w' W) :
    ∃ v u q n, e = .returned (.tuple #[v, .int .i64 n]) ∧ f = .returned (.tuple #[u, .int .i64 n]) ∧ VS W v q ∧ VS W u q ∧ ((n = 0 ∧ Strict q ∧ (∀ p ∈ q, rightL p.1 = true) ∧ q.Perm (ps.map canonP)) ∨ (n ≠ 0 ∧ q = [] ∧ v = .slice none 0 0 ∧ ¬ ((∀ p ∈ ps, rightL p.1 = true) ∧ ∃ q : List Pt, q.Perm (ps.map canonP) ∧ Strict q))) := by
  rcases h with ⟨⟨p, hp, h1⟩, rfl⟩ | ⟨h0, h1, rfl⟩ | ⟨h0, q, v, h1, h2, rfl, h4⟩
  · rcases h' with ⟨-, rfl⟩ | ⟨g0, -⟩ | ⟨g0, -⟩
    · exact ⟨_, _, [], 1, rfl, rfl, VS.nil _, VS.nil _, .inr ⟨by decide, rfl, rfl, fun hh => by rw [hh.1 p hp] at h1; cases h1⟩⟩
    · rw [g0 p hp] at h1; cases h1
    · rw [g0 p hp] at h1; cases h1
  · rcases h' with ⟨⟨p, hp, g1⟩, -⟩ | ⟨g0, g1, rfl⟩ | ⟨g0, q, v, g1, g2, -⟩
    · rw [h0 p hp] at g1; cases g1
    · exact ⟨_, _, [], 4, rfl, rfl, VS.nil _, VS.nil _, .inr ⟨by decide, rfl, rfl, fun ⟨_, q, a, b⟩ => h1 q a b⟩⟩
    · exact absurd g2 (h1 _ g1)
  · rcases h' with ⟨⟨p, hp, g1⟩, -⟩ | ⟨g0, g1, rfl⟩ | ⟨g0, q', v', g1, g2, rfl, g4⟩
    · rw [h0 p hp] at g1; cases g1
    · exact absurd h2 (g1 _ h1)
    · have he : q' = q := strictp_unique (g1.trans h1.symm) g2 h2
      subst he
      refine ⟨v, v', q', 0, rfl, rfl, h4.below hb (Nat.le_refl _), g4.below hb' (Nat.le_refl _), .inl ⟨rfl, h2, fun p hp => ?_, h1⟩⟩
      obtain ⟨r, hr, rfl⟩ := List.mem_map.1 (h1.subset hp)
      exact h0 r hr
theorem strict_vright {q : List Pt} (h : Strict q) (hr : ∀ p ∈ q, rightL p.1 = true) : vrightL q = true := vright_yes fun k hk => ⟨hr _ (List.getElem_mem hk), fun h0 => List.pairwise_iff_getElem.1 h (k - 1) k (by omega) hk (by omega)⟩
end Go.Proofs.Ytkflhfdpdgnbfaa
