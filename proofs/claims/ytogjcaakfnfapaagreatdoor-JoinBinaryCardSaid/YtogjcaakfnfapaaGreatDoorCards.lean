/-
  DERIVED. GIVEN WITH THE SEED: THE CARDS: each row of YtogjcaakfnfapaaGreatDoorRows.lean that lists a variable, with what it lists TIED to the program's text (the seventh form; the later family's looks); each row that meets fmt, with fmt's text TOLD by the authors' own Lean function (tested against real Go, not proved from fmt's source: count such statements apart). THE CARD IS WHAT COUNTS. Prove the row's statement (the work); the ties are given (YtogjcaakfnfapaaGreatDoorTie.lean); close each card by the builder's one call (the guide's Derived/Test/ToyasCard.lean, 'card_holds'). Laid BY PROGRAM, IN A SANDBOX (cutbox-door.mjs). By AI agents, Wed Nov 11 2026. No macro, syntax, notation, axiom, sorry.
-/
import Derived.Test.YtogjcaakfnfapaaGreatDoorRows
import GoSem.ClaimSeven
namespace Go.Proofs.YtogjcaakfnfapaaGreatDoor
namespace Rows

/-- THE TIED CARD OF 'isobarlaw11.JoinBinary'. -/
def joinBinaryCard : Claim7 := { stood := { row := joinBinaryRow, standIns := [], harness := (true, "7491ba1ac88ebed6fd924e7d9deb171ac55028d3b038f57445b2cb7806d1036b"), looks := false }, kinds := [], alts := [], laidByText := true, laidKinds := [.data, .data, .data], laidTests := true, laidLooks := .later }
def JoinBinaryCardSaid : Prop := Claim7.holds Tryz.pinned (.plain (OpenSpec.ofChange joinBinarySpec)) joinBinaryCard

/-- THE TIED CARD OF 'isobarlaw11.JoinSets'. -/
def joinSetsCard : Claim7 := { stood := { row := joinSetsRow, standIns := [], harness := (true, "7491ba1ac88ebed6fd924e7d9deb171ac55028d3b038f57445b2cb7806d1036b"), looks := false }, kinds := [], alts := [], laidByText := true, laidKinds := [.data, .data, .data], laidTests := true, laidLooks := .later }
def JoinSetsCardSaid : Prop := Claim7.holds Tryz.pinned (.plain (OpenSpec.ofChange joinSetsSpec)) joinSetsCard

/-- THE SECOND FORM's CARD OF 'isobarlaw11.JoinBinary'. -/
def joinBinaryUptoCard : Claim7 := { stood := { row := joinBinaryUptoRow, standIns := [], harness := (true, "7491ba1ac88ebed6fd924e7d9deb171ac55028d3b038f57445b2cb7806d1036b"), looks := false }, kinds := [], alts := [], laidByText := true, laidKinds := [.data, .data, .data], laidTests := true, laidLooks := .later }
def JoinBinaryUptoCardSaid : Prop := Claim7.holds Tryz.pinned (.plain (OpenSpec.upto joinBinarySpec)) joinBinaryUptoCard

/-- THE SECOND FORM's CARD OF 'isobarlaw11.JoinSets'. -/
def joinSetsUptoCard : Claim7 := { stood := { row := joinSetsUptoRow, standIns := [], harness := (true, "7491ba1ac88ebed6fd924e7d9deb171ac55028d3b038f57445b2cb7806d1036b"), looks := false }, kinds := [], alts := [], laidByText := true, laidKinds := [.data, .data, .data], laidTests := true, laidLooks := .later }
def JoinSetsUptoCardSaid : Prop := Claim7.holds Tryz.pinned (.plain (OpenSpec.upto joinSetsSpec)) joinSetsUptoCard
end Rows
end Go.Proofs.YtogjcaakfnfapaaGreatDoor
