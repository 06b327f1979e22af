/-
  DERIVED. GIVEN WITH THE SEED: THE CARDS: each row of YtkflhfdpdgnbfaaDoorRows.lean that lists a variable, with what it lists TIED to the program's text (the seventh form; the later family's looks); each row that meets fmt, with fmt's text TOLD by the authors' own Lean function (tested against real Go, not proved from fmt's source: count such statements apart). THE CARD IS WHAT COUNTS. Prove the row's statement (the work); the ties are given (YtkflhfdpdgnbfaaDoorTie.lean); close each card by the builder's one call (the guide's Derived/Test/ToyasCard.lean, 'card_holds'). Laid BY PROGRAM, IN A SANDBOX (cutbox-door.mjs). By AI agents, Wed Nov 11 2026. No macro, syntax, notation, axiom, sorry.
-/
import Derived.Test.YtkflhfdpdgnbfaaDoorRows
import GoSem.ClaimSeven
namespace Go.Proofs.YtkflhfdpdgnbfaaDoor
namespace Rows

/-- THE TIED CARD OF 'isobarlaw2.StampDurations'. -/
def stampDurationsCard : Claim7 := { stood := { row := stampDurationsRow, standIns := [], harness := (true, "aa3c57e16cf99362eb596dcaa40c5dc6198bfa8a1ec5e5f6a9b618d95dd3d40c"), looks := false }, kinds := [], alts := [], laidByText := true, laidKinds := [.data, .data, .data], laidTests := true, laidLooks := .later }
def StampDurationsCardSaid : Prop := Claim7.holds Tryd.pinned (.plain (OpenSpec.ofChange stampDurationsSpec)) stampDurationsCard

/-- THE TIED CARD OF 'isobarlaw2.StampGrids'. -/
def stampGridsCard : Claim7 := { stood := { row := stampGridsRow, standIns := [], harness := (true, "aa3c57e16cf99362eb596dcaa40c5dc6198bfa8a1ec5e5f6a9b618d95dd3d40c"), looks := false }, kinds := [], alts := [], laidByText := true, laidKinds := [.data, .data, .data], laidTests := true, laidLooks := .later }
def StampGridsCardSaid : Prop := Claim7.holds Tryd.pinned (.plain (OpenSpec.ofChange stampGridsSpec)) stampGridsCard

/-- THE TIED CARD OF 'isobarlaw2.StampAligns'. -/
def stampAlignsCard : Claim7 := { stood := { row := stampAlignsRow, standIns := [], harness := (true, "aa3c57e16cf99362eb596dcaa40c5dc6198bfa8a1ec5e5f6a9b618d95dd3d40c"), looks := false }, kinds := [], alts := [], laidByText := true, laidKinds := [.data, .data, .data], laidTests := true, laidLooks := .later }
def StampAlignsCardSaid : Prop := Claim7.holds Tryd.pinned (.plain (OpenSpec.ofChange stampAlignsSpec)) stampAlignsCard

/-- THE TIED CARD OF 'isobarlaw2.StampSums'. -/
def stampSumsCard : Claim7 := { stood := { row := stampSumsRow, standIns := [], harness := (true, "aa3c57e16cf99362eb596dcaa40c5dc6198bfa8a1ec5e5f6a9b618d95dd3d40c"), looks := false }, kinds := [], alts := [], laidByText := true, laidKinds := [.data, .data, .data], laidTests := true, laidLooks := .later }
def StampSumsCardSaid : Prop := Claim7.holds Tryd.pinned (.plain (OpenSpec.ofChange stampSumsSpec)) stampSumsCard

/-- THE TIED CARD OF 'isobarlaw2.StampNumbers'. -/
def stampNumbersCard : Claim7 := { stood := { row := stampNumbersRow, standIns := [], harness := (true, "aa3c57e16cf99362eb596dcaa40c5dc6198bfa8a1ec5e5f6a9b618d95dd3d40c"), looks := false }, kinds := [], alts := [], laidByText := true, laidKinds := [.data, .data, .data], laidTests := true, laidLooks := .later }
def StampNumbersCardSaid : Prop := Claim7.holds Tryd.pinned (.plain (OpenSpec.ofChange stampNumbersSpec)) stampNumbersCard

/-- THE SECOND FORM's CARD OF 'isobarlaw2.StampDurations'. -/
def stampDurationsUptoCard : Claim7 := { stood := { row := stampDurationsUptoRow, standIns := [], harness := (true, "aa3c57e16cf99362eb596dcaa40c5dc6198bfa8a1ec5e5f6a9b618d95dd3d40c"), looks := false }, kinds := [], alts := [], laidByText := true, laidKinds := [.data, .data, .data], laidTests := true, laidLooks := .later }
def StampDurationsUptoCardSaid : Prop := Claim7.holds Tryd.pinned (.plain (OpenSpec.upto stampDurationsSpec)) stampDurationsUptoCard

/-- THE SECOND FORM's CARD OF 'isobarlaw2.StampGrids'. -/
def stampGridsUptoCard : Claim7 := { stood := { row := stampGridsUptoRow, standIns := [], harness := (true, "aa3c57e16cf99362eb596dcaa40c5dc6198bfa8a1ec5e5f6a9b618d95dd3d40c"), looks := false }, kinds := [], alts := [], laidByText := true, laidKinds := [.data, .data, .data], laidTests := true, laidLooks := .later }
def StampGridsUptoCardSaid : Prop := Claim7.holds Tryd.pinned (.plain (OpenSpec.upto stampGridsSpec)) stampGridsUptoCard

/-- THE SECOND FORM's CARD OF 'isobarlaw2.StampAligns'. -/
def stampAlignsUptoCard : Claim7 := { stood := { row := stampAlignsUptoRow, standIns := [], harness := (true, "aa3c57e16cf99362eb596dcaa40c5dc6198bfa8a1ec5e5f6a9b618d95dd3d40c"), looks := false }, kinds := [], alts := [], laidByText := true, laidKinds := [.data, .data, .data], laidTests := true, laidLooks := .later }
def StampAlignsUptoCardSaid : Prop := Claim7.holds Tryd.pinned (.plain (OpenSpec.upto stampAlignsSpec)) stampAlignsUptoCard

/-- THE SECOND FORM's CARD OF 'isobarlaw2.StampSums'. -/
def stampSumsUptoCard : Claim7 := { stood := { row := stampSumsUptoRow, standIns := [], harness := (true, "aa3c57e16cf99362eb596dcaa40c5dc6198bfa8a1ec5e5f6a9b618d95dd3d40c"), looks := false }, kinds := [], alts := [], laidByText := true, laidKinds := [.data, .data, .data], laidTests := true, laidLooks := .later }
def StampSumsUptoCardSaid : Prop := Claim7.holds Tryd.pinned (.plain (OpenSpec.upto stampSumsSpec)) stampSumsUptoCard

/-- THE SECOND FORM's CARD OF 'isobarlaw2.StampNumbers'. -/
def stampNumbersUptoCard : Claim7 := { stood := { row := stampNumbersUptoRow, standIns := [], harness := (true, "aa3c57e16cf99362eb596dcaa40c5dc6198bfa8a1ec5e5f6a9b618d95dd3d40c"), looks := false }, kinds := [], alts := [], laidByText := true, laidKinds := [.data, .data, .data], laidTests := true, laidLooks := .later }
def StampNumbersUptoCardSaid : Prop := Claim7.holds Tryd.pinned (.plain (OpenSpec.upto stampNumbersSpec)) stampNumbersUptoCard
end Rows
end Go.Proofs.YtkflhfdpdgnbfaaDoor
