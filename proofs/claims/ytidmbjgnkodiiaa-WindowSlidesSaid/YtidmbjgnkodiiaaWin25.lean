/- Slide: what is computed; the two rows and the cell block of a column that grows. -/
import Derived.Test.YtidmbjgnkodiiaaWin24
import Derived.Test.YtidmbjgnkodiiaaWin16
import Derived.Maps.AppendAt
import Derived.StillTail
namespace Go.Proofs.Ytidmbjgnkodiiaa
open Go Go.RowKit
set_option linter.unusedVariables false
set_option linter.unusedSimpArgs false
set_option maxRecDepth 100000
/-- What a function tells at the i-th point of a grid. -/
def FV (fn len off s e st : Int) (l : List (Int × Nat)) (i : Nat) : Nat × Bool := fnR fn ((Gr.atV s e st i).1 - off - len) ((Gr.atV s e st i).1 - off) l
def colV (fn len off s e st : Int) (l : List (Int × Nat)) (k : Nat) : List Nat := (List.range k).map fun i => (FV fn len off s e st l i).1
def colH (fn len off s e st : Int) (l : List (Int × Nat)) (k : Nat) : List Bool := (List.range k).map fun i => (FV fn len off s e st l i).2
theorem colV_succ (fn len off s e st : Int) (l : List (Int × Nat)) (k : Nat) : colV fn len off s e st l (k + 1) = colV fn len off s e st l k ++ [(FV fn len off s e st l k).1] := by
  unfold colV; rw [List.range_succ, List.map_append]; rfl
theorem colH_succ (fn len off s e st : Int) (l : List (Int × Nat)) (k : Nat) : colH fn len off s e st l (k + 1) = colH fn len off s e st l k ++ [(FV fn len off s e st l k).2] := by
  unfold colH; rw [List.range_succ, List.map_append]; rfl
def argsOk (fn len off : Int) : Prop := (1 ≤ fn ∧ fn ≤ 14) ∧ (1 ≤ len ∧ len ≤ 1125899906842624) ∧ -1125899906842624 ≤ off ∧ off ≤ 1125899906842624
def SlR (fn len off s e st : Int) (l : List (Int × Nat)) (w : World) (x : Ending) (w' : World) : Prop :=
  Below w.heap.size w w' ∧ ((Gr.checkV s e st ≠ 0 ∧ x = .returned (.tuple #[.agg #[.slice none 0 0, .slice none 0 0], .int .i64 (Gr.checkV s e st)])) ∨
    (Gr.checkV s e st = 0 ∧ ¬ argsOk fn len off ∧ x = .returned (.tuple #[.agg #[.slice none 0 0, .slice none 0 0], .int .i64 1])) ∨
    (Gr.checkV s e st = 0 ∧ argsOk fn len off ∧ ∃ va ha, x = .returned (.tuple #[.agg #[va, ha], .int .i64 0]) ∧ Sl fenc1 w' va (colV fn len off s e st l (Gr.pointsV s e st).toNat) ∧ Sl benc1 w' ha (colH fn len off s e st l (Gr.pointsV s e st).toNat)))
theorem step_append_at {P : Program} {w : World} {ops : Array Oper} {o : Oper} {a : Act} {K : Act → World → Prop} {Q : Exit → Act → World → Prop} {E : Prop} (hgd : o.guard = none) (s x : Operand) (t : TypeId)
    (ho : o.op = .call { callee := .builtin .append, args := #[s, x], argTypes := #[t, t] })
    (base : Nat) (e : TypeId) (i : TypeInfo) (z : Value) (size bytes : Nat) (ht : P.underlying t = some (.slice e)) (hi : P.info? e = some i) (hz : i.zero = some z)
    (hsize : i.size = size) (hby : i.bytes = bytes) (hzs : z.cells.size = size) (hsz : 0 < size)
    (v : Value) (n : Nat) (xs : List Value) (hs : a.eval s = v) (hown : w.ownsRow base e size v n xs)
    (ad : Addr) (m c : Nat) (news : List Value) (hx : a.eval x = .slice (some ad) m c)
    (hl : news.length = m * size) (hnews : ∀ j u, news[j]? = some u → w.cell? (ad.add j) = some u) (h1 : ∀ u ∈ news, u.oneCell' = true)
    (h63 : n + m ≤ maxLen) (hbytes : (n + m) * bytes ≤ 140737488355328) (hbase : base ≤ w.heap.size)
    (h : ∀ v' w', w'.ownsRow base e size v' (n + m) (xs ++ news) → w.grownBy w' v.ownBlock → (v'.ownBlock = v.ownBlock ∨ v'.ownBlock = some w.heap.size) → K (a.put o.dst v') w') :
    if Region.wanted o (yielded ops a.tmps) = true then Oper.wp P o a w K Q else E := by
  have hw : Region.wanted o (yielded ops a.tmps) = true := by simp [Region.wanted, hgd]
  rw [if_pos hw]
  obtain ⟨v', w', hr, h2, h3, h4, h5⟩ := run_append_own_at (P := P) w base t o.type e i z size bytes ht hi hz hsize hby hzs hsz v n xs hown ad m c news hl hnews h1 h63 hbytes hbase
  unfold Oper.wp execOp
  simp only [ho, resolve, invoke, builtin, Sem.run_bind, Sem.run_pure, Result.andThen_ok, List.map_toArray, List.map_cons, List.map_nil, hs, hx, hr]
  exact h v' w' h2 h3 h5
theorem Try.infoFl : (Try.prog.info? 38).map (fun i => (i.zero, i.size, i.bytes)) = some (some (.float .f64 0), 1, 8) := by kernel_rfl
theorem Try.infoBl : (Try.prog.info? 4).map (fun i => (i.zero, i.size, i.bytes)) = some (some (.bool false), 1, 1) := by kernel_rfl
theorem closed_waits {ops : Array Oper} {md : Region.Mode} {d : Array Bool} (hc : Closed md ops d) {j i : Nat} (hw : Region.waitsFor md ops j i = true) (hj : d.getD j false = true) : d.getD i false = true := by
  obtain ⟨o, ho, e, he, hb, rfl⟩ := Region.waitsFor_spec hw
  have hlt : j < d.size := by
    rcases Nat.lt_or_ge j d.size with h | h
    · exact h
    · simp [Array.getElem?_eq_none h] at hj
  exact hc j o ho (by simp [hlt] at hj ⊢; exact hj) hlt e he hb
/-- An operation that is still to come: what waits for it has not come up. -/
theorem till_not {ops : Array Oper} {md : Region.Mode} {d : Array Bool} (hc : Closed md ops d) {i k j : Nat} (h1 : Region.waitsFor md ops j k = true) (h2 : Region.waitsFor md ops k i = true) (hi : i ∈ Region.ready md ops d) : d.getD j false = false := by
  cases hj : d.getD j false with
  | false => rfl
  | true =>
    have h3 := closed_waits hc h2 (closed_waits hc h1 hj)
    have h4 := getD_both (mem_ready.1 hi).1
    rw [h3] at h4
    cases h4
/-- A column that grows: a row of floats, a row of bools, the block of two cells that names them. -/
structure RS (w0 : World) (B g : Nat) (W : World) (VA VH : Value) (nA nH : Nat) (xA xH : List Value) (x0 x1 : Value) : Prop where
  b : Below B w0 W
  hg : B ≤ g
  a : W.ownsRow B 38 1 VA nA xA
  h : W.ownsRow B 4 1 VH nH xH
  blk : W.heap[g]? = some (.cells #[x0, x1] 30 (0, 0))
/-- One cell in a block of its own. -/
def NB (W : World) (g : Nat) (t : TypeId) (x : Value) : Prop := W.heap[g]? = some (.cells #[x] t (0, 0))
theorem row_type {w : World} {base : Nat} {e t : TypeId} {size : Nat} {v : Value} {n : Nat} {xs : List Value} (h : w.ownsRow base e size v n xs) {g : Nat} {cs : Array Value} (hb : w.heap[g]? = some (.cells cs t (0, 0))) (hne : e ≠ t) : some g ≠ v.ownBlock := fun he => by
  rcases h.2 with ⟨rfl, -⟩ | ⟨k, cap, cur, rfl, -, hk, -⟩
  · cases he
  · injection he with he
    simp only at he
    rw [he] at hb
    rw [hk] at hb
    injection hb with hb
    injection hb with _ hb _
    exact hne hb
theorem row_row {w : World} {b1 b2 : Nat} {e t : TypeId} {s1 s2 : Nat} {v u : Value} {n m : Nat} {xs ys : List Value} (h : w.ownsRow b1 e s1 v n xs) (h2 : w.ownsRow b2 t s2 u m ys) (hne : e ≠ t) : u.ownBlock = none ∨ u.ownBlock ≠ v.ownBlock := by
  rcases h2.2 with ⟨rfl, -⟩ | ⟨k, cap, cur, rfl, -, hk, -⟩
  · exact .inl rfl
  · exact .inr (row_type h hk hne)
theorem set_grown (w : World) (g o : Nat) (v : Value) : w.grownBy (w.setCell ⟨g, o, none⟩ v) (some g) := by
  have hb := (Below.refl 0 w).setCell (p := ⟨g, o, none⟩) (Nat.zero_le _) v
  exact ⟨hb.os, hb.tape, hb.output, hb.size, fun k hk hne => Below.heap_setCell _ _ _ _ (fun e => hne (by rw [e]))⟩
section
variable {w0 W W' : World} {B g nA nH : Nat} {VA VH V x0 x1 u : Value} {xA xH ys : List Value}
theorem RS.alloc (r : RS w0 B g W VA VH nA nH xA xH x0 x1) (o : Obj) : RS w0 B g (W.alloc o) VA VH nA nH xA xH x0 x1 :=
  ⟨r.b.alloc (by have := r.b.size; have := (Array.getElem?_eq_some_iff.1 r.blk).1; have := r.hg; omega) o, r.hg, r.a.alloc o, r.h.alloc o, by rw [Below.heap_alloc _ _ _ (Array.getElem?_eq_some_iff.1 r.blk).1]; exact r.blk⟩
theorem NB.alloc {k : Nat} {t : TypeId} {x : Value} (h : NB W k t x) (o : Obj) : NB (W.alloc o) k t x := by
  unfold NB at *
  rw [Below.heap_alloc _ _ _ (Array.getElem?_eq_some_iff.1 h).1]; exact h
theorem NB.new (W : World) (t : TypeId) (x : Value) : NB (W.alloc (.cells #[x] t)) W.heap.size t x := heap_new _ _
theorem RS.appA (r : RS w0 B g W VA VH nA nH xA xH x0 x1) {m : Nat} (h : W'.ownsRow B 38 1 V m ys) (hgr : W.grownBy W' VA.ownBlock) : RS w0 B g W' V VH m nH ys xH x0 x1 :=
  ⟨r.b.grown hgr (by have := (Array.getElem?_eq_some_iff.1 r.blk).1; have := r.hg; omega) (fun k hk => (r.a.lt k hk).1), r.hg, h, r.h.kept hgr (row_row r.a r.h (by decide)), by
    rw [hgr.block g (Array.getElem?_eq_some_iff.1 r.blk).1 (row_type r.a r.blk (by decide))]; exact r.blk⟩
theorem RS.appH (r : RS w0 B g W VA VH nA nH xA xH x0 x1) {m : Nat} (h : W'.ownsRow B 4 1 V m ys) (hgr : W.grownBy W' VH.ownBlock) : RS w0 B g W' VA V nA m xA ys x0 x1 :=
  ⟨r.b.grown hgr (by have := (Array.getElem?_eq_some_iff.1 r.blk).1; have := r.hg; omega) (fun k hk => (r.h.lt k hk).1), r.hg, r.a.kept hgr (row_row r.h r.a (by decide)), h, by
    rw [hgr.block g (Array.getElem?_eq_some_iff.1 r.blk).1 (row_type r.h r.blk (by decide))]; exact r.blk⟩
theorem NB.appA (r : RS w0 B g W VA VH nA nH xA xH x0 x1) {k : Nat} {x : Value} (h : NB W k 4 x) (hgr : W.grownBy W' VA.ownBlock) : NB W' k 4 x := by
  unfold NB at *
  rw [hgr.block k (Array.getElem?_eq_some_iff.1 h).1 (row_type r.a h (by decide))]; exact h
theorem NB.appH (r : RS w0 B g W VA VH nA nH xA xH x0 x1) {k : Nat} {x : Value} (h : NB W k 38 x) (hgr : W.grownBy W' VH.ownBlock) : NB W' k 38 x := by
  unfold NB at *
  rw [hgr.block k (Array.getElem?_eq_some_iff.1 h).1 (row_type r.h h (by decide))]; exact h
theorem blk_set0 (h : W.heap[g]? = some (.cells #[x0, x1] 30 (0, 0))) (u : Value) : (W.setCell ⟨g, 0, none⟩ u).heap[g]? = some (.cells #[u, x1] 30 (0, 0)) := by
  simp [World.setCell, h, Array.getElem?_modify]
theorem blk_set1 (h : W.heap[g]? = some (.cells #[x0, x1] 30 (0, 0))) (u : Value) : (W.setCell ⟨g, 1, none⟩ u).heap[g]? = some (.cells #[x0, u] 30 (0, 0)) := by
  simp [World.setCell, h, Array.getElem?_modify]
theorem own_ne {w : World} {base : Nat} {e t : TypeId} {size : Nat} {v : Value} {n : Nat} {xs : List Value} (h : w.ownsRow base e size v n xs) {g : Nat} {cs : Array Value} (hb : w.heap[g]? = some (.cells cs t (0, 0))) (hne : e ≠ t) : v.ownBlock = none ∨ v.ownBlock ≠ some g :=
  .inr fun he => row_type h hb hne he.symm
theorem RS.set0 (r : RS w0 B g W VA VH nA nH xA xH x0 x1) (u : Value) : RS w0 B g (W.setCell ⟨g, 0, none⟩ u) VA VH nA nH xA xH u x1 :=
  ⟨r.b.setCell r.hg u, r.hg, r.a.kept (set_grown _ _ _ _) (own_ne r.a r.blk (by decide)), r.h.kept (set_grown _ _ _ _) (own_ne r.h r.blk (by decide)), blk_set0 r.blk u⟩
theorem RS.set1 (r : RS w0 B g W VA VH nA nH xA xH x0 x1) (u : Value) : RS w0 B g (W.setCell ⟨g, 1, none⟩ u) VA VH nA nH xA xH x0 u :=
  ⟨r.b.setCell r.hg u, r.hg, r.a.kept (set_grown _ _ _ _) (own_ne r.a r.blk (by decide)), r.h.kept (set_grown _ _ _ _) (own_ne r.h r.blk (by decide)), blk_set1 r.blk u⟩
theorem NB.set (r : RS w0 B g W VA VH nA nH xA xH x0 x1) {k o : Nat} {t : TypeId} {x : Value} (h : NB W k t x) (ht : t ≠ 30) : NB (W.setCell ⟨g, o, none⟩ u) k t x := by
  unfold NB at *
  have hne : k ≠ g := fun e => by
    rw [e, r.blk] at h
    injection h with h
    injection h with _ h _
    exact ht h.symm
  rw [Below.heap_setCell _ _ _ _ hne]; exact h
theorem RS.c0 (r : RS w0 B g W VA VH nA nH xA xH x0 x1) : W.cell? ⟨g, 0, none⟩ = some x0 := by rw [cell_of_row W g 0 _ _ _ r.blk]; rfl
theorem RS.c1 (r : RS w0 B g W VA VH nA nH xA xH x0 x1) : W.cell? ⟨g, 1, none⟩ = some x1 := by rw [cell_of_row W g 1 _ _ _ r.blk]; rfl
theorem RS.z0 (r : RS w0 B g W VA VH nA nH xA xH x0 x1) : W.frozen? ⟨g, 0, none⟩ = false := by simp [World.frozen?, r.blk]
theorem RS.z1 (r : RS w0 B g W VA VH nA nH xA xH x0 x1) : W.frozen? ⟨g, 1, none⟩ = false := by simp [World.frozen?, r.blk]
theorem RS.size (r : RS w0 B g W VA VH nA nH xA xH x0 x1) : B ≤ W.heap.size := by have := (Array.getElem?_eq_some_iff.1 r.blk).1; have := r.hg; omega
end
/-- What the two loads ask, till their cells' stores come up. -/
def TCol (g : Nat) (x0 x1 : Value) (d : Array Bool) (w : World) : Prop := (d.getD 11 false = false → w.cell? ⟨g, 0, none⟩ = some x0) ∧ (d.getD 13 false = false → w.cell? ⟨g, 1, none⟩ = some x1)
theorem tcol_ins {g : Nat} {x0 x1 : Value} (i : Nat) (h1 : i ≠ 11) (h2 : i ≠ 13) : ∀ d u, TCol g x0 x1 (d.setIfInBounds i true) u ↔ TCol g x0 x1 d u := fun d u => by
  unfold TCol
  rw [getD_set_ne false h1, getD_set_ne false h2]
theorem results_cell {P : Program} {fn : Func} {s u : Tmp} {t : TypeId} (h : fn.results = #[.cell s t, .tmp u]) (tmps : Array Value) (w : World) (ad : Addr) (v : Value) (ht : tmps.getD s undef = .pointer (some ad)) (hl : (loadVar t ad).run P w = .ok v w) :
    (results fn tmps).run P w = .ok (.tuple #[v, tmps.getD u undef]) w := by
  have ht2 : tmps[s]?.getD undef = .pointer (some ad) := by simpa using ht
  simp [results, h, ht2, asAddr, hl]
theorem isAggCol (w : World) : (isAgg 30).run Try.prog w = .ok true w := by rfl
theorem sizeOfCol (w : World) : (sizeOf 30).run Try.prog w = .ok 2 w := by rfl
theorem loadCol (w : World) (g : Nat) (u v : Value) (h0 : w.cell? ⟨g, 0, none⟩ = some u) (h1 : w.cell? ⟨g, 1, none⟩ = some v) : (loadVar 30 ⟨g, 0, none⟩).run Try.prog w = .ok (.agg #[u, v]) w := by
  have hc := run_loadCells_list (P := Try.prog) (w := w) ⟨g, 0, none⟩ [u, v] (fun j x hj => by
    match j, hj with
    | 0, hj => simp at hj; subst hj; simpa [Addr.add] using h0
    | 1, hj => simp at hj; subst hj; simpa [Addr.add] using h1)
  simp only [List.length_cons, List.length_nil] at hc
  simp [loadVar, isAggCol, sizeOfCol, hc]
end Go.Proofs.Ytidmbjgnkodiiaa
