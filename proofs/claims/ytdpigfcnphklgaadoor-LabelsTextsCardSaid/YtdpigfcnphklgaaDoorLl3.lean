/- What the listed variables give: the table that strconv.Itoa reads. -/
import Derived.Test.YtdpigfcnphklgaaDoorLb2
import Derived.Test.YtdpigfcnphklgaaDoorRows
import Derived.LaidMore
import Derived.LaidHandle
import Derived.MakeChecks
namespace Go.Proofs.YtdpigfcnphklgaaDoor
open Go Go.RowKit
set_option linter.unusedVariables false

theorem tab_of_laid {W : World} (h : laidMetH Tryd.prog [("math/bits.deBruijn32tab", Rows.laid_math_bits_deBruijn32tab), ("math/bits.deBruijn64tab", Rows.laid_math_bits_deBruijn64tab), ("internal/strconv.uint64pow10", Rows.laid_internal_strconv_uint64pow10)] W) : Tab W := by
  rw [MakeChecks.laidMetH_plain _ _ _ (by kernel_rfl)] at h
  obtain ⟨ps, ⟨g0, t0, cs0, f0, p0, q0, hg0, ht0, hv0, hd0, ⟨g1, t1, cs1, f1, p1, q1, hg1, ht1, hv1, hd1, ⟨g2, t2, cs2, f2, p2, q2, hg2, ht2, hv2, hd2, _, _⟩, _⟩, _⟩, _, _⟩ := h
  have hg : Tryd.prog.globalNamed "internal/strconv.uint64pow10" = some g2 := hg2
  have hty : (Tryd.prog.globals[g2]?).map (·.type) = some t2 := ht2
  have e2 : t2 = 173 := by
    have hk : (Tryd.prog.globalNamed "internal/strconv.uint64pow10").bind (fun g => (Tryd.prog.globals[g]?).map (·.type)) = some 173 := by kernel_rfl
    rw [hg, Option.bind_some, hty] at hk
    exact Option.some.inj hk
  subst e2
  have hc := Lib.cells_of_tab (k := .u64) (zs := Lib.pow10Tab) Tryd.underlying173 Tryd.underlying156 (by kernel_rfl) (by kernel_rfl) hd2
  unfold Tab Lib.TabIs
  rw [hv2, ← hc]
end Go.Proofs.YtdpigfcnphklgaaDoor
