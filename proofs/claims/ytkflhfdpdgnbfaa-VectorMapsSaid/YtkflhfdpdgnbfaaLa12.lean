/- labels.Set. -/
import Derived.Test.YtkflhfdpdgnbfaaLa11
namespace Go.Proofs.Ytkflhfdpdgnbfaa
open Go.RowKit
set_option linter.unusedVariables false
set_option linter.unusedSimpArgs false
set_option maxRecDepth 100000
theorem name_qs (s : ByteArray) (w : World) : Calls Try.prog 51 #[.string s] w fun e w' => e = .returned (.bool (nameB s)) ∧ w = w' := (name_any s w).mono fun _ _ h => ⟨h.1, h.2.symm⟩
def okFrom : Option ByteArray → List Lb → Bool
  | _, [] => true
  | p, x :: r => nameB x.1 && decide (x.2.size ≤ 256) && !(decide (p = some x.1)) && okFrom (some x.1) r
def keepL (l : List Lb) : List Lb := l.filter fun x => decide (0 < x.2.size)
def setOk (l : List Lb) : Bool := okFrom none l && decide ((keepL l).length ≤ 32)
def prevO (cs : List Lb) : Nat → Option ByteArray
  | 0 => none
  | k + 1 => some (lx cs k).1
theorem keep_snoc (l : List Lb) (k : Nat) (h : k < l.length) : keepL (l.take (k + 1)) = keepL (l.take k) ++ if 0 < (lx l k).2.size then [lx l k] else [] := by
  unfold keepL
  rw [lx_at h, List.take_succ_eq_append_getElem h, List.filter_append]
  congr 1
  by_cases h : 0 < l[k].2.size <;> simp [h]
theorem keep_take_len (l : List Lb) (k : Nat) : (keepL (l.take k)).length ≤ l.length := Nat.le_trans (List.length_filter_le _ _) (by simp; omega)
end Go.Proofs.Ytkflhfdpdgnbfaa
