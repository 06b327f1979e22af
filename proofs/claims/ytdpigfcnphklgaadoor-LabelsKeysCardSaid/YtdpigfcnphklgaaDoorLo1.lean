/- The arguments of chapter 3's laws, opened. -/
import Derived.Test.YtdpigfcnphklgaaDoorLa2
import Derived.Test.YtdpigfcnphklgaaDoorOs
import Derived.Deep.Strs
namespace Go.Proofs.YtdpigfcnphklgaaDoor
open Go.RowKit Go.ChangeShapes Go.WideShapes Go.Joins
set_option linter.unusedVariables false
set_option linter.unusedSimpArgs false
set_option maxRecDepth 100000
theorem Tryd.cellsLb : Tryd.prog.cellsOf 33 = 2 := by kernel_rfl
theorem Tryd.cellsI : Tryd.prog.cellsOf 3 = 1 := by kernel_rfl
theorem Tryd.cellsStr : Tryd.prog.cellsOf 9 = 1 := by kernel_rfl
theorem Tryd.cellsStrs : Tryd.prog.cellsOf 41 = 1 := by kernel_rfl
theorem Tryd.cellsGr : Tryd.prog.cellsOf 48 = 2 := by kernel_rfl
section
variable {H : Type} {enc : TypeId × Value → H} {w : World} {base : Nat} {spare : Nat → Bool} {held : Bool}
theorem elem_label (n : Nat) (cs : List Value) (x : DataW H × List MemPlace) (h : DataW.trod enc Tryd.prog w base spare held n 33 cs = some x) : ∃ a : Lb, cs = lenc a ∧ True := by
  obtain ⟨y0, y1, m, hx, hl, h0, h1⟩ := trod_struct2 Tryd.underlying33 h
  rw [Tryd.cellsLb] at hl
  match cs, hl with
  | [c0, c1], _ =>
    obtain ⟨s1, e0, _⟩ := DataW.trod_string Tryd.underlying9 h0
    obtain ⟨s2, e1, _⟩ := DataW.trod_string Tryd.underlying9 h1
    simp [Tryd.cellsStr] at e0 e1
    subst e0 e1
    exact ⟨(s1, s2), rfl, trivial⟩
theorem elem_str (n : Nat) (cs : List Value) (x : DataW H × List MemPlace) (h : DataW.trod enc Tryd.prog w base spare held n 9 cs = some x) : ∃ a : ByteArray, cs = senc1 a ∧ True := by
  obtain ⟨s1, e0, _⟩ := DataW.trod_string Tryd.underlying9 h
  exact ⟨s1, e0, trivial⟩
theorem open_labels {r : Reach} {b0 : Nat} {v : Value} {d : DataW H} {ps : List MemPlace} (hval : Value.okWide Tryd.prog w r b0 22 v) (h : DataW.Trod enc Tryd.prog w base spare held 22 v d ps) : ∃ xs, Sl lenc w v xs := by
  obtain ⟨xs, h, _⟩ := open_sl Tryd.underlying22 Tryd.cellsLb (by decide) lenc_len elem_label hval h
  exact ⟨xs, h⟩
theorem open_strs {r : Reach} {b0 : Nat} {v : Value} {d : DataW H} {ps : List MemPlace} (hval : Value.okWide Tryd.prog w r b0 41 v) (h : DataW.Trod enc Tryd.prog w base spare held 41 v d ps) : ∃ xs, Sl senc1 w v xs := by
  obtain ⟨xs, h, _⟩ := open_sl Tryd.underlying41 Tryd.cellsStr (by decide) senc1_len elem_str hval h
  exact ⟨xs, h⟩
theorem open_group {r : Reach} {b0 : Nat} {v : Value} {d : DataW H} {ps : List MemPlace} (hval : Value.okWide Tryd.prog w r b0 48 v) (h : DataW.Trod enc Tryd.prog w base spare held 48 v d ps) : ∃ how u xs, v = .agg #[.int .i64 how, u] ∧ Sl senc1 w u xs := by
  obtain ⟨cs, rfl, hsz⟩ := okWide_struct Tryd.underlying48 hval
  obtain ⟨fuel, hf⟩ := h
  obtain ⟨y0, y1, m, hx, hl, h0, h1⟩ := trod_struct2 Tryd.underlying48 hf
  have hl3 : cs.toList.length = 2 := by simpa [Tryd.cellsGr] using hsz
  obtain ⟨l, rfl⟩ : ∃ l : List Value, cs = l.toArray := ⟨cs.toList, by simp⟩
  simp only [Value.cells] at h0 h1
  simp only [List.toList_toArray] at hl3 h0 h1
  match l, hl3 with
  | [c0, c1], _ =>
    obtain ⟨se, e0, _⟩ := DataW.trod_int Tryd.underlying3 h0
    obtain ⟨u, xs, e1, hs, _⟩ := open_sl_cs Tryd.underlying41 Tryd.cellsStr (by decide) senc1_len elem_str h1
    simp [Tryd.cellsI, Tryd.cellsStrs] at e0 e1
    subst e0 e1
    exact ⟨se, _, xs, rfl, hs⟩
end
end Go.Proofs.YtdpigfcnphklgaaDoor
