/- Guards of the laws of chapter 8: in, Right; slices of samples, opened. -/
import Derived.Test.YtidmbjgnkodiiaaWin12
import Derived.Test.YtidmbjgnkodiiaaOsl
import Derived.Deep.Strs
import Derived.Deep.RegionLaw
import Derived.BigQuiet
namespace Go.Proofs.Ytidmbjgnkodiiaa
open Go.RowKit Go.ChangeShapes Go.WideShapes Go.Joins
set_option linter.unusedVariables false
set_option linter.unusedSimpArgs false
set_option maxRecDepth 100000

def inB (t : Int) : Bool := decide (-2251799813685248 ≤ t ∧ t ≤ 2251799813685248)
theorem Try.cellsSm : Try.prog.cellsOf 45 = 2 := by kernel_rfl
theorem Try.cellsI8 : Try.prog.cellsOf 3 = 1 := by kernel_rfl
theorem Try.cellsF8 : Try.prog.cellsOf 38 = 1 := by kernel_rfl
section
variable {H : Type} {enc : TypeId × Value → H} {w : World} {base : Nat} {spare : Nat → Bool} {held : Bool}
theorem trod_float {cs : List Value} {fuel : Nat} {t : TypeId} {k : FloatKind} {P : Program} {x : DataW H × List MemPlace} (ht : P.underlying t = some (.float k)) (h : DataW.trod enc P w base spare held fuel t cs = some x) : ∃ n, cs = [.float k n] ∧ (Lit.float k n).wf = true := by
  cases fuel with
  | zero => simp [DataW.trod] at h
  | succ n =>
    unfold DataW.trod at h
    rw [ht] at h
    split at h <;> simp_all
theorem elem_sample (n : Nat) (cs : List Value) (x : DataW H × List MemPlace) (h : DataW.trod enc Try.prog w base spare held n 45 cs = some x) : ∃ a : Int × Nat, cs = tenc a ∧ True := by
  obtain ⟨y0, y1, m, hx, hl, h0, h1⟩ := trod_struct2 Try.underlying45 h
  rw [Try.cellsSm] at hl
  match cs, hl with
  | [c0, c1], _ =>
    obtain ⟨k, e0, _⟩ := DataW.trod_int Try.underlying3 h0
    obtain ⟨s1, e1, _⟩ := trod_float Try.underlying38 h1
    simp [Try.cellsI8, Try.cellsF8] at e0 e1
    subst e0 e1
    exact ⟨(k, s1), rfl, trivial⟩
theorem open_samples {r : Reach} {b0 : Nat} {v : Value} {d : DataW H} {ps : List MemPlace} (hval : Value.okWide Try.prog w r b0 22 v) (h : DataW.Trod enc Try.prog w base spare held 22 v d ps) : ∃ xs, Sl tenc w v xs := by
  obtain ⟨xs, h, _⟩ := open_sl Try.underlying22 Try.cellsSm (by decide) tenc_len elem_sample hval h
  exact ⟨xs, h⟩
end

end Go.Proofs.Ytidmbjgnkodiiaa
