/- Lists of labels: Few, Get. -/
import Derived.Test.YtkflhfdpdgnbfaaLa1
import Derived.Deep.Light
namespace Go.Proofs.Ytkflhfdpdgnbfaa
open Go.RowKit
set_option linter.unusedVariables false
set_option linter.unusedSimpArgs false
set_option maxRecDepth 100000

abbrev Lb := ByteArray × ByteArray
def lenc (m : Lb) : List Value := [.string m.1, .string m.2]
theorem lenc_len (m : Lb) : (lenc m).length = 2 := rfl
def lx (cs : List Lb) (k : Nat) : Lb := cs.getD k (ByteArray.empty, ByteArray.empty)
theorem lx_at {cs : List Lb} {k : Nat} (h : k < cs.length) : lx cs k = cs[k] := by simp [lx, h]
def getL (name : ByteArray) : List Lb → ByteArray
  | [] => ⟨#[]⟩
  | c :: cs => if c.1.toList == name.toList then c.2 else getL name cs
/-- A label's two cells, in a later world. -/
theorem lab_cells {w wr : World} {a : Option Addr} {cs : List Lb} {B k : Nat} (HC : ∀ k (hk : k < cs.length), ∃ b off, a = some ⟨b, off, none⟩ ∧ ∀ i u, (lenc cs[k])[i]? = some u → w.cell? ⟨b, off + (k * 2 + i), none⟩ = some u) (hb : Below B w wr) (hB : w.heap.size ≤ B) (hlt : k < cs.length) :
    ∃ b off, a = some ⟨b, off, none⟩ ∧ wr.cell? ⟨b, off + k * 2, none⟩ = some (.string (lx cs k).1) ∧ wr.cell? ⟨b, off + k * 2 + 1, none⟩ = some (.string (lx cs k).2) := by
  obtain ⟨b, off, rfl, hcc⟩ := HC k hlt
  refine ⟨b, off, rfl, ?_, ?_⟩
  · rw [lx_at hlt]; exact cell_below hb hB (hcc 0 _ rfl)
  · rw [lx_at hlt]; exact cell_below hb hB (hcc 1 _ rfl)

end Go.Proofs.Ytkflhfdpdgnbfaa
