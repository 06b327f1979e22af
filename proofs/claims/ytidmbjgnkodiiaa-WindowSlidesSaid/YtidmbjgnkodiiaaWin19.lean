/- The walk of WindowFns. -/
import Derived.Test.YtidmbjgnkodiiaaWin12
import Derived.Test.YtidmbjgnkodiiaaWin13
import Derived.Test.YtidmbjgnkodiiaaWin14
import Derived.Test.YtidmbjgnkodiiaaWin15
import Derived.Deep.RegionLaw
namespace Go.Proofs.Ytidmbjgnkodiiaa
open Go.RowKit
set_option linter.unusedVariables false
set_option linter.unusedSimpArgs false

theorem fnR_canon (fn fr to : Int) (l : List (Int × Nat)) : canon (fnR fn fr to l).1 = (fnR fn fr to l).1 := by
  unfold fnR
  split
  · rcases hv : vals fr to l with _ | ⟨x, t⟩
    · exact canon_zero
    · show canon (if t.length + 1 < need fn then ((0, false) : Nat × Bool) else (fnV fn.toNat x t (to - fr), true)).1 = (if t.length + 1 < need fn then ((0, false) : Nat × Bool) else (fnV fn.toNat x t (to - fr), true)).1
      split
      · exact canon_zero
      · exact canon_canon _
  · exact canon_zero
theorem fsame_self (a : Nat) : fsame a a = true := by simp [fsame]

end Go.Proofs.Ytidmbjgnkodiiaa
