/- append of a slice of another named type; a vector's row, raw. -/
import Derived.Test.YtkflhfdpdgnbfaaVo8
namespace Go.Proofs.Ytkflhfdpdgnbfaa
open Go Go.RowKit
set_option linter.unusedVariables false
set_option linter.unusedSimpArgs false
set_option maxRecDepth 100000
theorem append_types {P : Program} {t t2 e e2 : TypeId} (ht : P.underlying t = some (.slice e)) (ht2 : P.underlying t2 = some (.slice e2)) (ty : TypeId) (sb : Option Addr) (sn sc : Nat) (x : Value) (w : World) :
    (Builtin.append_ #[t, t2] ty #[.slice sb sn sc, x]).run P w = (Builtin.append_ #[t, t] ty #[.slice sb sn sc, x]).run P w := by
  unfold Builtin.append_
  simp only [List.getElem?_toArray, List.getElem?_cons_zero, List.getElem?_cons_succ, Sem.run_bind, run_underlying ht, run_underlying ht2, Result.andThen_ok, Sem.run_pure]
theorem wpList_append_two {P : Program} {w : World} {ops : Array Oper} {rest : List Oper} {o : Oper} {a : Act} {Q : Exit → Act → World → Prop} (hgd : o.guard = none) (s x : Operand) (t t2 : TypeId)
    (ho : o.op = .call { callee := .builtin .append, args := #[s, x], argTypes := #[t, t2] })
    (base : Nat) (e e2 : TypeId) (i : TypeInfo) (z : Value) (size bytes : Nat) (ht : P.underlying t = some (.slice e)) (ht2 : P.underlying t2 = some (.slice e2)) (hi : P.info? e = some i) (hz : i.zero = some z)
    (hsize : i.size = size) (hby : i.bytes = bytes) (hzs : z.cells.size = size) (hsz : 0 < size)
    (v : Value) (n : Nat) (xs : List Value) (hs : a.eval s = v) (hown : w.ownsRow base e size v n xs)
    (sa : Option Addr) (m c : Nat) (news : List Value) (hx : a.eval x = .slice sa m c) (hnone : sa = none → m = 0 ∧ c = 0 ∧ news = [])
    (hl : news.length = m * size) (hnews : ∀ ad, sa = some ad → ∀ j u, news[j]? = some u → w.cell? (ad.add j) = some u) (h1 : ∀ u ∈ news, u.oneCell' = true)
    (h63 : n + m ≤ maxLen) (hbytes : (n + m) * bytes ≤ 140737488355328) (hbase : base ≤ w.heap.size)
    (h : ∀ v' w', w'.ownsRow base e size v' (n + m) (xs ++ news) → w.grownBy w' v.ownBlock → wpList P ops Q rest (a.put o.dst v') w') : wpList P ops Q (o :: rest) a w := by
  refine wpList_plain hgd fun K hK => ?_
  cases sa with
  | none =>
    obtain ⟨rfl, rfl, rfl⟩ := hnone rfl
    obtain ⟨vb, vn, vc, hvv⟩ : ∃ vb vn vc, v = .slice vb vn vc := by
      rcases hown.2 with ⟨rfl, -⟩ | ⟨g, cap, cur, rfl, -⟩ <;> exact ⟨_, _, _, rfl⟩
    have hrun := run_append_owned_none (P := P) (w := w) base t o.type e i size ht hi v n xs hown
    rw [hvv] at hs hrun hown
    rw [← append_types ht ht2] at hrun
    unfold Oper.wp execOp
    simp only [ho, resolve, invoke, builtin, Sem.run_bind, Sem.run_pure, Result.andThen_ok, List.map_toArray, List.map_cons, List.map_nil, hs, hx, hrun]
    exact hK _ _ (h _ w (by simpa using hown) ⟨rfl, rfl, rfl, Nat.le_refl _, fun _ _ _ => rfl⟩)
  | some ad =>
    obtain ⟨v', w', hr, h2, h3, h4, h5⟩ := run_append_own_at (P := P) w base t o.type e i z size bytes ht hi hz hsize hby hzs hsz v n xs hown ad m c news hl (hnews ad rfl) h1 h63 hbytes hbase
    obtain ⟨vb, vn, vc, rfl⟩ : ∃ vb vn vc, v = .slice vb vn vc := by
      rcases hown.2 with ⟨rfl, -⟩ | ⟨g, cap, cur, rfl, -⟩ <;> exact ⟨_, _, _, rfl⟩
    rw [← append_types ht ht2] at hr
    unfold Oper.wp execOp
    simp only [ho, resolve, invoke, builtin, Sem.run_bind, Sem.run_pure, Result.andThen_ok, List.map_toArray, List.map_cons, List.map_nil, hs, hx, hr]
    exact hK _ _ (h v' w' h2 h3)
/-- A vector's row, with what each point's labels read as. -/
theorem VS.raw {w : World} {v : Value} {ps : List Pt} (h : VS w v ps) : ∃ zs : List ZPt, zs.map (·.2) = ps ∧ Sl zenc w v zs ∧ ∀ z ∈ zs, Sl lenc w z.1 z.2.1 := by
  obtain ⟨raw, h1, h2, h3⟩ := h
  have hl : (List.zipWith (fun (r : RPt) (p : Pt) => ((r.1, p) : ZPt)) raw ps).length = ps.length := by simp [h2]
  refine ⟨List.zipWith (fun (r : RPt) (p : Pt) => ((r.1, p) : ZPt)) raw ps, ?_, ?_, ?_⟩
  · refine List.ext_getElem (by simp [h2]) fun i a b => ?_
    rw [List.getElem_map, List.getElem_zipWith]
  · have e : (List.zipWith (fun (r : RPt) (p : Pt) => ((r.1, p) : ZPt)) raw ps).map (fun z : ZPt => (z.1, z.2.2)) = raw := by
      refine List.ext_getElem (by simp [h2]) fun i a b => ?_
      rw [List.getElem_map, List.getElem_zipWith]
      have := (h3 i b (by omega)).2
      show (raw[i].1, ps[i].2) = raw[i]
      rw [← this]
    obtain ⟨a, cap, e1, hm, hn, hc⟩ := h1
    refine ⟨a, cap, by rw [e1, hl, h2], by rw [hl, ← h2]; exact hm, fun ha => ?_, fun hx => ?_⟩
    · obtain ⟨c0, r0⟩ := hn ha
      refine ⟨c0, ?_⟩
      rw [r0]; rfl
    · obtain ⟨b, off, hb, hd⟩ := hc (fun r0 => hx (by rw [r0]; rfl))
      refine ⟨b, off, hb, fun j u hu => hd j u ?_⟩
      rw [← e, List.flatMap_map]
      exact hu
  · intro z hz
    obtain ⟨k, hk, rfl⟩ := List.mem_iff_getElem.1 hz
    rw [List.getElem_zipWith]
    have hk2 : k < raw.length := by have := hk; simp at this; omega
    exact (h3 k hk2 (by omega)).1
end Go.Proofs.Ytkflhfdpdgnbfaa
