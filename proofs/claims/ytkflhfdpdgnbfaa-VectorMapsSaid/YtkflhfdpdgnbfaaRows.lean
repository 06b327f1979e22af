/-
  No cell of these rows narrows 'for every input' (looked for: loops, veiled, ifaces, maps, wideKeys, modest, calm, conditions, laid).
  DERIVED. THE GIVEN ROWS OF THIS SEAT. 4 by the template 'for every input the law returns true; each argument reads behind the call as it read before'; 0 by the template 'total and deterministic' (their statements: YtkflhfdpdgnbfaaTotals.lean).
  GIVEN WITH THE SEED: the statements are not yours to turn. If you find one false, say at which input.
  Laid BY PROGRAM, IN A SANDBOX (cutbox-rows.mjs): the forced cells as the released guide's own fill.sh prints them over the translation 805e397464938447… (all of the seat's roots in one cut). By AI agents, Wed Nov 11 2026. No macro, syntax, notation, axiom, sorry.
-/
import Derived.Test.YtkflhfdpdgnbfaaChecked
import GoSem.Claim
import GoSem.ClaimJoined
import GoSem.ClaimMapViews
import Derived.JoinedTies
import Derived.KernelRfl
namespace Go.Proofs.Ytkflhfdpdgnbfaa
/- THE CELL 'sum', in the pinned program and in every row, IS THE sha256 OF THE DUMP (.gsa) THAT YtkflhfdpdgnbfaaProg.lean LOADS. Nothing in Lean hashes anything: it is a label: what it is worth is what the hold of that sum in a sandbox is worth. -/
noncomputable def Try.pinned : Pinned := { name := "ytkflhfdpdgnbfaa", sum := "805e39746493844754cb44b16bc8c4574cb86c70382c095ea427e864a0cdf693", checked := Try.checked }
namespace Rows
def none {H : Type} : Left H := { results := [], args := [] }

/-- 'isobarlaw9.VectorNormal': WHATEVER THE INPUT: true; the input reads as it did. -/
def vectorNormalSpec : ChangeSpec := { name := "vectorNormal", fn := fun _ => fun
  | [d] => { results := [.lit (.bool true)], args := [d] }
  | _ => none }
def vectorNormalRow : OpenClaim := { program := "ytkflhfdpdgnbfaa", sum := "805e39746493844754cb44b16bc8c4574cb86c70382c095ea427e864a0cdf693", func := "isobar/isobarlaw9.VectorNormal", spec := "vectorNormal", inPlace := ["math.Float64frombits", "internal/bytealg.abigen_runtime_cmpstring", "math.Float64bits"], unfollowed := true, recurses := true, apart := false }
def VectorNormalSaid : Prop := vectorNormalRow.holds Try.pinned (OpenSpec.ofChange vectorNormalSpec)

/-- ITS FALSE NEIGHBOUR: 'it returns false'. Refute it at one input. -/
def vectorNormalWrong : ChangeSpec := { name := "vectorNormal", fn := fun _ => fun
  | [d] => { results := [.lit (.bool false)], args := [d] }
  | _ => none }
def VectorNormalWrongFalsely : Prop := vectorNormalRow.holds Try.pinned (OpenSpec.ofChange vectorNormalWrong)

/-- 'isobarlaw9.VectorFilters': WHATEVER THE INPUT: true; the input reads as it did. -/
def vectorFiltersSpec : ChangeSpec := { name := "vectorFilters", fn := fun _ => fun
  | [d1, d2, d3, d4] => { results := [.lit (.bool true)], args := [d1, d2, d3, d4] }
  | _ => none }
def vectorFiltersRow : OpenClaim := { program := "ytkflhfdpdgnbfaa", sum := "805e39746493844754cb44b16bc8c4574cb86c70382c095ea427e864a0cdf693", func := "isobar/isobarlaw9.VectorFilters", spec := "vectorFilters", inPlace := ["math.Float64frombits", "internal/bytealg.abigen_runtime_cmpstring", "math.Float64bits"], unfollowed := true, recurses := true, apart := false }
def VectorFiltersSaid : Prop := vectorFiltersRow.holds Try.pinned (OpenSpec.ofChange vectorFiltersSpec)

/-- ITS FALSE NEIGHBOUR: 'it returns false'. Refute it at one input. -/
def vectorFiltersWrong : ChangeSpec := { name := "vectorFilters", fn := fun _ => fun
  | [d1, d2, d3, d4] => { results := [.lit (.bool false)], args := [d1, d2, d3, d4] }
  | _ => none }
def VectorFiltersWrongFalsely : Prop := vectorFiltersRow.holds Try.pinned (OpenSpec.ofChange vectorFiltersWrong)

/-- 'isobarlaw9.VectorNames': WHATEVER THE INPUT: true; the input reads as it did. -/
def vectorNamesSpec : ChangeSpec := { name := "vectorNames", fn := fun _ => fun
  | [d1, d2, d3, d4] => { results := [.lit (.bool true)], args := [d1, d2, d3, d4] }
  | _ => none }
def vectorNamesRow : OpenClaim := { program := "ytkflhfdpdgnbfaa", sum := "805e39746493844754cb44b16bc8c4574cb86c70382c095ea427e864a0cdf693", func := "isobar/isobarlaw9.VectorNames", spec := "vectorNames", inPlace := ["math.Float64frombits", "internal/bytealg.abigen_runtime_cmpstring", "math.Float64bits"], unfollowed := true, recurses := true, apart := false }
def VectorNamesSaid : Prop := vectorNamesRow.holds Try.pinned (OpenSpec.ofChange vectorNamesSpec)

/-- ITS FALSE NEIGHBOUR: 'it returns false'. Refute it at one input. -/
def vectorNamesWrong : ChangeSpec := { name := "vectorNames", fn := fun _ => fun
  | [d1, d2, d3, d4] => { results := [.lit (.bool false)], args := [d1, d2, d3, d4] }
  | _ => none }
def VectorNamesWrongFalsely : Prop := vectorNamesRow.holds Try.pinned (OpenSpec.ofChange vectorNamesWrong)

/-- 'isobarlaw9.VectorMaps': WHATEVER THE INPUT: true; the input reads as it did. -/
def vectorMapsSpec : ChangeSpec := { name := "vectorMaps", fn := fun _ => fun
  | [d1, d2, d3, d4, d5, d6, d7, d8] => { results := [.lit (.bool true)], args := [d1, d2, d3, d4, d5, d6, d7, d8] }
  | _ => none }
def vectorMapsRow : OpenClaim := { program := "ytkflhfdpdgnbfaa", sum := "805e39746493844754cb44b16bc8c4574cb86c70382c095ea427e864a0cdf693", func := "isobar/isobarlaw9.VectorMaps", spec := "vectorMaps", inPlace := ["math.Float64frombits", "internal/bytealg.abigen_runtime_cmpstring", "math.Float64bits", "slices.overlaps[isobar/api.Label]"], unfollowed := true, recurses := true, apart := false }
def VectorMapsSaid : Prop := vectorMapsRow.holds Try.pinned (OpenSpec.ofChange vectorMapsSpec)

/-- ITS FALSE NEIGHBOUR: 'it returns false'. Refute it at one input. -/
def vectorMapsWrong : ChangeSpec := { name := "vectorMaps", fn := fun _ => fun
  | [d1, d2, d3, d4, d5, d6, d7, d8] => { results := [.lit (.bool false)], args := [d1, d2, d3, d4, d5, d6, d7, d8] }
  | _ => none }
def VectorMapsWrongFalsely : Prop := vectorMapsRow.holds Try.pinned (OpenSpec.ofChange vectorMapsWrong)

/- THE SECOND FORM. 'bulk': how many values and letters a reading holds, each counted each time it is reached (what is shared counts as often as it is met; a slice's spare places count too). A statement '..UptoSaid' is the law's where the arguments, and the package variables that the reading takes, are together of bulk at most 1048576: NARROWER than '..Said'. Prove '..Said' where nothing that the law and all that it calls make is longer than what came in: it says more and counts as full. Else prove '..UptoSaid'. A law counts once. -/
mutual
def uptoBulk {H : Type} : DataW H → Nat
  | .lit (.string bytes) => bytes.length + 1
  | .lit _ => 1
  | .nil => 1
  | .ptr d => uptoBulk d + 1
  | .slice elems spare => uptoBulkAll elems + uptoBulkAll spare + 1
  | .agg parts => uptoBulkAll parts + 1
  | .iface _ d => uptoBulk d + 1
  | .map entries => uptoBulkEntries entries + 1
  | .held _ => 1
def uptoBulkAll {H : Type} : List (DataW H) → Nat
  | [] => 0
  | d :: r => uptoBulk d + uptoBulkAll r
def uptoBulkEntries {H : Type} : List (Lit × DataW H) → Nat
  | [] => 0
  | x :: r => uptoBulkEntry x + uptoBulkEntries r
def uptoBulkEntry {H : Type} : Lit × DataW H → Nat
  | (.string bytes, d) => bytes.length + uptoBulk d + 1
  | (_, d) => uptoBulk d + 1
 end
def uptoSmall : (H : Type) → List (DataW H) → Bool := fun _ ds => decide (uptoBulkAll ds ≤ 1048576)
def OpenSpec.upto (s : _root_.Go.ChangeSpec) : _root_.Go.OpenSpec := { _root_.Go.OpenSpec.ofChange s with cond := some uptoSmall }

/-- 'isobarlaw9.VectorNormal', WHERE WHAT IT READS IS OF BULK AT MOST 1048576: true; the input reads as it did. -/
def vectorNormalUptoRow : OpenClaim := { program := "ytkflhfdpdgnbfaa", sum := "805e39746493844754cb44b16bc8c4574cb86c70382c095ea427e864a0cdf693", func := "isobar/isobarlaw9.VectorNormal", spec := "vectorNormal", inPlace := ["math.Float64frombits", "internal/bytealg.abigen_runtime_cmpstring", "math.Float64bits"], unfollowed := true, recurses := true, apart := false, narrowed := true }
def VectorNormalUptoSaid : Prop := vectorNormalUptoRow.holds Try.pinned (OpenSpec.upto vectorNormalSpec)

/-- 'isobarlaw9.VectorFilters', WHERE WHAT IT READS IS OF BULK AT MOST 1048576: true; the input reads as it did. -/
def vectorFiltersUptoRow : OpenClaim := { program := "ytkflhfdpdgnbfaa", sum := "805e39746493844754cb44b16bc8c4574cb86c70382c095ea427e864a0cdf693", func := "isobar/isobarlaw9.VectorFilters", spec := "vectorFilters", inPlace := ["math.Float64frombits", "internal/bytealg.abigen_runtime_cmpstring", "math.Float64bits"], unfollowed := true, recurses := true, apart := false, narrowed := true }
def VectorFiltersUptoSaid : Prop := vectorFiltersUptoRow.holds Try.pinned (OpenSpec.upto vectorFiltersSpec)

/-- 'isobarlaw9.VectorNames', WHERE WHAT IT READS IS OF BULK AT MOST 1048576: true; the input reads as it did. -/
def vectorNamesUptoRow : OpenClaim := { program := "ytkflhfdpdgnbfaa", sum := "805e39746493844754cb44b16bc8c4574cb86c70382c095ea427e864a0cdf693", func := "isobar/isobarlaw9.VectorNames", spec := "vectorNames", inPlace := ["math.Float64frombits", "internal/bytealg.abigen_runtime_cmpstring", "math.Float64bits"], unfollowed := true, recurses := true, apart := false, narrowed := true }
def VectorNamesUptoSaid : Prop := vectorNamesUptoRow.holds Try.pinned (OpenSpec.upto vectorNamesSpec)

/-- 'isobarlaw9.VectorMaps', WHERE WHAT IT READS IS OF BULK AT MOST 1048576: true; the input reads as it did. -/
def vectorMapsUptoRow : OpenClaim := { program := "ytkflhfdpdgnbfaa", sum := "805e39746493844754cb44b16bc8c4574cb86c70382c095ea427e864a0cdf693", func := "isobar/isobarlaw9.VectorMaps", spec := "vectorMaps", inPlace := ["math.Float64frombits", "internal/bytealg.abigen_runtime_cmpstring", "math.Float64bits", "slices.overlaps[isobar/api.Label]"], unfollowed := true, recurses := true, apart := false, narrowed := true }
def VectorMapsUptoSaid : Prop := vectorMapsUptoRow.holds Try.pinned (OpenSpec.upto vectorMapsSpec)

end Rows
end Go.Proofs.Ytkflhfdpdgnbfaa
