/- slices.Insert at labels: one label into a row of one's own. -/
import Derived.Test.YtkflhfdpdgnbfaaLa16
import Derived.Lib.Overlaps
import Derived.Lib.AppendZerosOnto
import Derived.Laws.CopyRow
import Derived.Laws.Externs
import Derived.Outline
namespace Go.Proofs.Ytkflhfdpdgnbfaa
open Go Go.RowKit
set_option linter.unusedVariables false
set_option linter.unusedSimpArgs false
set_option maxRecDepth 100000
/-- copy between rows of elements of k cells. -/
theorem run_copy_rowK {P : Program} (w : World) (dT sT ty elem : TypeId) (k g o dLen dCap : Nat) (a : Addr) (sLen sCap : Nat) (cur : Array Value) (t : TypeId) (cs : List Value)
    (hu : P.underlying dT = some (.slice elem)) (hs : (P.info? elem).map (·.size) = some k)
    (hg : w.heap[g]? = some (.cells cur t (0, 0))) (hn : cs.length = Nat.min sLen dLen * k)
    (hsrc : ∀ j v, cs[j]? = some v → w.cell? (a.add j) = some v) (hfit : o + cs.length ≤ cur.size) (h1 : ∀ v ∈ cs, v.oneCell' = true) :
    (Builtin.copy_ #[dT, sT] ty #[.slice (some ⟨g, o, none⟩) dLen dCap, .slice (some a) sLen sCap]).run P w =
      .ok (goInt (Nat.min sLen dLen)) (w.setRow g (cur.toList.take o ++ cs ++ cur.toList.drop (o + cs.length)).toArray) := by
  have hl := run_loadCells_list (P := P) w a cs hsrc
  have hst := run_storeCells_at P g o t cs 0 cur w hg (by simpa using hfit) h1
  cases hq : P.info? elem with
  | none => simp [hq] at hs
  | some i =>
    have hi : i.size = k := by simpa [hq] using hs
    simp [Builtin.copy_, run_underlying hu, Builtin.lenOf, Builtin.firstCells, sizeOf, typeInfo, hq, hi, ← hn, hl, hst]
theorem wpList_copy_run' {P : Program} (w : World) {ops : Array Oper} {rest : List Oper} {o : Oper} {a : Act} {Q : Exit → Act → World → Prop} (hgd : o.guard = none) (d s : Operand) (t t' : TypeId)
    (ho : o.op = .call { callee := .builtin .copy, args := #[d, s], argTypes := #[t, t'] }) (v u : Value) (hd : a.eval d = v) (hs : a.eval s = u) {v' : Value} {w' : World}
    (hr : (Builtin.copy_ #[t, t'] o.type #[v, u]).run P w = .ok v' w') (h : wpList P ops Q rest (a.put o.dst v') w') : wpList P ops Q (o :: rest) a w :=
  wpList_plain hgd fun _ hK => by
    unfold Oper.wp execOp
    simp only [ho, resolve, invoke, builtin, Sem.run_bind, Sem.run_pure, Result.andThen_ok, List.map_toArray, List.map_cons, List.map_nil, hd, hs, hr]
    exact hK _ _ h
theorem step_copy_run' {P : Program} {ops : Array Oper} {o : Oper} {a : Act} {w : World} {K : Act → World → Prop} {Q : Exit → Act → World → Prop} {E : Prop}
    (hg : o.guard = none) (d x : Operand) (dT sT : TypeId) (hop : o.op = Op.call { callee := Callee.builtin Builtin.copy, args := #[d, x], argTypes := #[dT, sT] })
    (v u : Value) (hd : a.eval d = v) (hx : a.eval x = u) {v' : Value} {w' : World} (hr : (Builtin.copy_ #[dT, sT] o.type #[v, u]).run P w = .ok v' w') (hK : K (a.put o.dst v') w') :
    if Region.wanted o (yielded ops a.tmps) = true then Oper.wp P o a w K Q else E := by
  have hw : Region.wanted o (yielded ops a.tmps) = true := by simp [Region.wanted, hg]
  rw [if_pos hw]
  unfold Oper.wp
  simp [execOp, hop, resolve, invoke, builtin, hd, hx, hr, Result.andThen]
  exact hK
theorem Try.sizeLb' (w : World) : (sizeOf 49).run Try.prog w = .ok 2 w := by rfl
theorem Sl.row {α : Type} {enc : α → List Value} {w : World} {g cap n : Nat} {t : TypeId} {fr : Nat × Nat} {cur : Array Value} {xs : List α} {R : List Value} (hg : w.heap[g]? = some (.cells cur t fr)) (hc : cur.toList = xs.flatMap enc ++ R) (hn : n = xs.length) (hcap : n ≤ cap ∧ cap ≤ 9223372036854775807) : Sl enc w (.slice (some ⟨g, 0, none⟩) n cap) xs := by
  subst hn
  refine ⟨_, cap, rfl, hcap, (fun e => by cases e), fun _ => ⟨g, 0, rfl, fun j u hu => ?_⟩⟩
  rw [Nat.zero_add, cell_of_row w g j cur t fr hg, ← Array.getElem?_toList, hc, List.getElem?_append_left (List.getElem?_eq_some_iff.1 hu).1]
  exact hu
/-- What the two copies leave of a row. -/
theorem two_copies (T D R X : List Value) (n2 i2 : Nat) (hi : i2 = T.length) (hX : X.length = 2) (hR : 2 ≤ R.length) :
    (((T ++ D ++ R).take (i2 + 2) ++ D ++ (T ++ D ++ R).drop (i2 + 2 + D.length)).take i2 ++ X ++ ((T ++ D ++ R).take (i2 + 2) ++ D ++ (T ++ D ++ R).drop (i2 + 2 + D.length)).drop (i2 + X.length)) = T ++ X ++ D ++ R.drop 2 := by
  subst hi
  have e1 : (T ++ D ++ R).drop (T.length + 2 + D.length) = R.drop 2 := by
    rw [show T.length + 2 + D.length = (T ++ D).length + 2 by rw [List.length_append]; omega, List.drop_append, List.drop_of_length_le (by omega), List.nil_append]
    congr 1; omega
  have e2 : (T ++ D ++ R).take (T.length + 2) = T ++ (D ++ R).take 2 := by
    rw [List.append_assoc, List.take_append, List.take_of_length_le (by omega)]
    congr 2; omega
  have e3 : ((D ++ R).take 2).length = 2 := by rw [List.length_take, List.length_append]; omega
  rw [e1, e2, hX]
  have e4 : (T ++ (D ++ R).take 2 ++ D ++ R.drop 2).take T.length = T := by
    rw [List.append_assoc, List.append_assoc, List.take_append, List.take_of_length_le (Nat.le_refl _)]; simp
  have e5 : (T ++ (D ++ R).take 2 ++ D ++ R.drop 2).drop (T.length + 2) = D ++ R.drop 2 := by
    rw [show T ++ (D ++ R).take 2 ++ D ++ R.drop 2 = (T ++ (D ++ R).take 2) ++ (D ++ R.drop 2) by simp only [List.append_assoc]]
    rw [show T.length + 2 = (T ++ (D ++ R).take 2).length by rw [List.length_append, e3]]
    exact List.drop_left
  rw [e4, e5]
  simp only [List.append_assoc]
end Go.Proofs.Ytkflhfdpdgnbfaa
