/- The walk of WindowShifts. -/
import Derived.Test.YtidmbjgnkodiiaaWin19
import Derived.Test.YtidmbjgnkodiiaaWin18
import Derived.Deep.RegionHeld3
import Derived.Deep.AppendLies
namespace Go.Proofs.Ytidmbjgnkodiiaa
open Go.RowKit
set_option linter.unusedVariables false
set_option linter.unusedSimpArgs false

def moved (by' : Int) (l : List (Int × Nat)) : List (Int × Nat) := l.map (fun x => (x.1 + by', x.2))
theorem vals_moved (fr to b : Int) (l : List (Int × Nat)) : vals (fr + b) (to + b) (moved b l) = vals fr to l := by
  unfold vals cutL moved
  induction l with
  | nil => rfl
  | cons x l ih =>
    have e : inside (fr + b) (to + b) (x.1 + b, x.2) = inside fr to x := by
      unfold inside
      have e1 : decide (fr + b < x.1 + b) = decide (fr < x.1) := decide_eq_decide.2 (by omega)
      have e2 : decide (x.1 + b ≤ to + b) = decide (x.1 ≤ to) := decide_eq_decide.2 (by omega)
      rw [e1, e2]
    rw [List.map_cons, List.filter_cons, List.filter_cons, e]
    cases inside fr to x
    · simpa using ih
    · simpa using ih
theorem vals_cut (fr to : Int) (l : List (Int × Nat)) : vals fr to (cutL fr to l) = vals fr to l := by
  unfold vals cutL
  rw [List.filter_filter]
  simp
theorem fnR_moved (fn fr to b : Int) (l : List (Int × Nat)) : fnR fn (fr + b) (to + b) (moved b l) = fnR fn fr to l := by
  unfold fnR
  rw [vals_moved]
  have e : (1 ≤ fn ∧ fn ≤ 14 ∧ fr + b < to + b) ↔ (1 ≤ fn ∧ fn ≤ 14 ∧ fr < to) := by omega
  rw [show to + b - (fr + b) = to - fr by omega]
  by_cases h : 1 ≤ fn ∧ fn ≤ 14 ∧ fr < to
  · rw [if_pos h, if_pos (e.2 h)]
  · rw [if_neg h, if_neg (fun x => h (e.1 x))]
theorem fnR_cut (fn fr to : Int) (l : List (Int × Nat)) : fnR fn fr to (cutL fr to l) = fnR fn fr to l := by
  unfold fnR
  rw [vals_cut]
theorem moved_snoc (b : Int) (l : List (Int × Nat)) (k : Nat) (h : k < l.length) : moved b (l.take (k + 1)) = moved b (l.take k) ++ [(l[k].1 + b, l[k].2)] := by
  unfold moved
  rw [List.take_succ_eq_append_getElem h, List.map_append]; rfl
theorem moved_len (b : Int) (l : List (Int × Nat)) : (moved b l).length = l.length := by simp [moved]
theorem same_four (x : Nat) (q : Bool) (w : World) :
    Calls Try.prog 12 #[.agg #[.slice (some ⟨w.heap.size, 0, none⟩) 2 2, .slice (some ⟨w.heap.size + 1, 0, none⟩) 2 2], .agg #[.slice (some ⟨w.heap.size + 2, 0, none⟩) 2 2, .slice (some ⟨w.heap.size + 3, 0, none⟩) 2 2]]
      ((((w.alloc (.cells #[.float .f64 x, .float .f64 x] 38)).alloc (.cells #[.bool q, .bool q] 4)).alloc (.cells #[.float .f64 x, .float .f64 x] 38)).alloc (.cells #[.bool q, .bool q] 4)) fun e w' => e = .returned (.bool true) ∧ Below w.heap.size w w' := by
  obtain ⟨n0, n1, n2, n3⟩ := lits4 w (.cells #[.float .f64 x, .float .f64 x] 38) (.cells #[.bool q, .bool q] 4) (.cells #[.float .f64 x, .float .f64 x] 38) (.cells #[.bool q, .bool q] 4)
  have hb : Below w.heap.size w ((((w.alloc (.cells #[.float .f64 x, .float .f64 x] 38)).alloc (.cells #[.bool q, .bool q] 4)).alloc (.cells #[.float .f64 x, .float .f64 x] 38)).alloc (.cells #[.bool q, .bool q] 4)) :=
    ((((Below.refl _ _).alloc (Nat.le_refl _) _).alloc (by simp) _).alloc (by simp; omega) _).alloc (by simp; omega) _
  refine (same_cols _ _ _ _ [x, x] [x, x] [q, q] _ (Sl.lit n0 rfl rfl (by simp)) (Sl.lit n2 rfl rfl (by simp)) (Sl.lit n1 rfl rfl (by simp)) (Sl.lit n3 rfl rfl (by simp)) rfl).mono ?_
  rintro e w' ⟨rfl, h2⟩
  exact ⟨rfl, hb.trans (h2.mono hb.size)⟩

end Go.Proofs.Ytidmbjgnkodiiaa
