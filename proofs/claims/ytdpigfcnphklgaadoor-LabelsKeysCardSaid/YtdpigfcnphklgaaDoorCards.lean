/-
  DERIVED. GIVEN WITH THE SEED: THE CARDS: each row of YtdpigfcnphklgaaDoorRows.lean that lists a variable, with what it lists TIED to the program's text (the seventh form; the later family's looks); each row that meets fmt, with fmt's text TOLD by the authors' own Lean function (tested against real Go, not proved from fmt's source: count such statements apart). THE CARD IS WHAT COUNTS. Prove the row's statement (the work); the ties are given (YtdpigfcnphklgaaDoorTie.lean); close each card by the builder's one call (the guide's Derived/Test/ToyasCard.lean, 'card_holds'). Laid BY PROGRAM, IN A SANDBOX (cutbox-door.mjs). By AI agents, Wed Nov 11 2026. No macro, syntax, notation, axiom, sorry.
-/
import Derived.Test.YtdpigfcnphklgaaDoorRows
import GoSem.ClaimSeven
namespace Go.Proofs.YtdpigfcnphklgaaDoor
namespace Rows

/-- THE TIED CARD OF 'isobarlaw3.LabelsSets'. -/
def labelsSetsCard : Claim7 := { stood := { row := labelsSetsRow, standIns := [], harness := (true, "1c8e2f38087610b5a5a82ea3680daad90a9a8e2d333e248c4951400f805d2af8"), looks := true }, kinds := [], alts := [], laidByText := true, laidKinds := [.data, .data, .data], laidTests := true, laidLooks := .later }
def LabelsSetsCardSaid : Prop := Claim7.holds Tryd.pinned (.plain (OpenSpec.ofChange labelsSetsSpec)) labelsSetsCard

/-- THE TIED CARD OF 'isobarlaw3.LabelsTexts'. -/
def labelsTextsCard : Claim7 := { stood := { row := labelsTextsRow, standIns := [], harness := (true, "1c8e2f38087610b5a5a82ea3680daad90a9a8e2d333e248c4951400f805d2af8"), looks := true }, kinds := [], alts := [], laidByText := true, laidKinds := [.data, .data, .data], laidTests := true, laidLooks := .later }
def LabelsTextsCardSaid : Prop := Claim7.holds Tryd.pinned (.plain (OpenSpec.ofChange labelsTextsSpec)) labelsTextsCard

/-- THE TIED CARD OF 'isobarlaw3.LabelsKeepDrop'. -/
def labelsKeepDropCard : Claim7 := { stood := { row := labelsKeepDropRow, standIns := [], harness := (true, "1c8e2f38087610b5a5a82ea3680daad90a9a8e2d333e248c4951400f805d2af8"), looks := true }, kinds := [], alts := [], laidByText := true, laidKinds := [.data, .data, .data], laidTests := true, laidLooks := .later }
def LabelsKeepDropCardSaid : Prop := Claim7.holds Tryd.pinned (.plain (OpenSpec.ofChange labelsKeepDropSpec)) labelsKeepDropCard

/-- THE TIED CARD OF 'isobarlaw3.LabelsParts'. -/
def labelsPartsCard : Claim7 := { stood := { row := labelsPartsRow, standIns := [], harness := (true, "1c8e2f38087610b5a5a82ea3680daad90a9a8e2d333e248c4951400f805d2af8"), looks := true }, kinds := [], alts := [], laidByText := true, laidKinds := [.data, .data, .data], laidTests := true, laidLooks := .later }
def LabelsPartsCardSaid : Prop := Claim7.holds Tryd.pinned (.plain (OpenSpec.ofChange labelsPartsSpec)) labelsPartsCard

/-- THE TIED CARD OF 'isobarlaw23.GlobNodes'. -/
def globNodesCard : Claim7 := { stood := { row := globNodesRow, standIns := [], harness := (true, "1c8e2f38087610b5a5a82ea3680daad90a9a8e2d333e248c4951400f805d2af8"), looks := true }, kinds := [], alts := [], laidByText := true, laidKinds := [.data, .data, .data, .data, .pinned], laidTests := true, laidLooks := .later }
def GlobNodesCardSaid : Prop := Claim7.holds Tryd.pinned (.plain (OpenSpec.ofChange globNodesSpec)) globNodesCard

/-- THE TIED CARD OF 'isobarlaw23.GlobStars'. -/
def globStarsCard : Claim7 := { stood := { row := globStarsRow, standIns := [], harness := (true, "1c8e2f38087610b5a5a82ea3680daad90a9a8e2d333e248c4951400f805d2af8"), looks := true }, kinds := [], alts := [], laidByText := true, laidKinds := [.data, .data, .data, .data, .pinned], laidTests := true, laidLooks := .later }
def GlobStarsCardSaid : Prop := Claim7.holds Tryd.pinned (.plain (OpenSpec.ofChange globStarsSpec)) globStarsCard

/-- THE TIED CARD OF 'isobarlaw3.LabelsKeys'. -/
def labelsKeysCard : Claim7 := { stood := { row := labelsKeysRow, standIns := [], harness := (true, "1c8e2f38087610b5a5a82ea3680daad90a9a8e2d333e248c4951400f805d2af8"), looks := true }, kinds := [], alts := [], laidByText := true, laidKinds := [.data, .data, .data, .sentinel, .sentinel], laidTests := true, laidLooks := .later }
def LabelsKeysCardSaid : Prop := Claim7.holds Tryd.pinned (.plain (OpenSpec.ofChange labelsKeysSpec)) labelsKeysCard

/-- THE TIED CARD OF 'isobarlaw23.GlobLabels'. -/
def globLabelsCard : Claim7 := { stood := { row := globLabelsRow, standIns := [], harness := (true, "1c8e2f38087610b5a5a82ea3680daad90a9a8e2d333e248c4951400f805d2af8"), looks := true }, kinds := [], alts := [], laidByText := true, laidKinds := [.data, .data, .data, .data, .pinned], laidTests := true, laidLooks := .later }
def GlobLabelsCardSaid : Prop := Claim7.holds Tryd.pinned (.plain (OpenSpec.ofChange globLabelsSpec)) globLabelsCard

/-- THE SECOND FORM's CARD OF 'isobarlaw3.LabelsSets'. -/
def labelsSetsUptoCard : Claim7 := { stood := { row := labelsSetsUptoRow, standIns := [], harness := (true, "1c8e2f38087610b5a5a82ea3680daad90a9a8e2d333e248c4951400f805d2af8"), looks := true }, kinds := [], alts := [], laidByText := true, laidKinds := [.data, .data, .data], laidTests := true, laidLooks := .later }
def LabelsSetsUptoCardSaid : Prop := Claim7.holds Tryd.pinned (.plain (OpenSpec.upto labelsSetsSpec)) labelsSetsUptoCard

/-- THE SECOND FORM's CARD OF 'isobarlaw3.LabelsTexts'. -/
def labelsTextsUptoCard : Claim7 := { stood := { row := labelsTextsUptoRow, standIns := [], harness := (true, "1c8e2f38087610b5a5a82ea3680daad90a9a8e2d333e248c4951400f805d2af8"), looks := true }, kinds := [], alts := [], laidByText := true, laidKinds := [.data, .data, .data], laidTests := true, laidLooks := .later }
def LabelsTextsUptoCardSaid : Prop := Claim7.holds Tryd.pinned (.plain (OpenSpec.upto labelsTextsSpec)) labelsTextsUptoCard

/-- THE SECOND FORM's CARD OF 'isobarlaw3.LabelsKeepDrop'. -/
def labelsKeepDropUptoCard : Claim7 := { stood := { row := labelsKeepDropUptoRow, standIns := [], harness := (true, "1c8e2f38087610b5a5a82ea3680daad90a9a8e2d333e248c4951400f805d2af8"), looks := true }, kinds := [], alts := [], laidByText := true, laidKinds := [.data, .data, .data], laidTests := true, laidLooks := .later }
def LabelsKeepDropUptoCardSaid : Prop := Claim7.holds Tryd.pinned (.plain (OpenSpec.upto labelsKeepDropSpec)) labelsKeepDropUptoCard

/-- THE SECOND FORM's CARD OF 'isobarlaw3.LabelsParts'. -/
def labelsPartsUptoCard : Claim7 := { stood := { row := labelsPartsUptoRow, standIns := [], harness := (true, "1c8e2f38087610b5a5a82ea3680daad90a9a8e2d333e248c4951400f805d2af8"), looks := true }, kinds := [], alts := [], laidByText := true, laidKinds := [.data, .data, .data], laidTests := true, laidLooks := .later }
def LabelsPartsUptoCardSaid : Prop := Claim7.holds Tryd.pinned (.plain (OpenSpec.upto labelsPartsSpec)) labelsPartsUptoCard

/-- THE SECOND FORM's CARD OF 'isobarlaw23.GlobNodes'. -/
def globNodesUptoCard : Claim7 := { stood := { row := globNodesUptoRow, standIns := [], harness := (true, "1c8e2f38087610b5a5a82ea3680daad90a9a8e2d333e248c4951400f805d2af8"), looks := true }, kinds := [], alts := [], laidByText := true, laidKinds := [.data, .data, .data, .data, .pinned], laidTests := true, laidLooks := .later }
def GlobNodesUptoCardSaid : Prop := Claim7.holds Tryd.pinned (.plain (OpenSpec.upto globNodesSpec)) globNodesUptoCard

/-- THE SECOND FORM's CARD OF 'isobarlaw23.GlobStars'. -/
def globStarsUptoCard : Claim7 := { stood := { row := globStarsUptoRow, standIns := [], harness := (true, "1c8e2f38087610b5a5a82ea3680daad90a9a8e2d333e248c4951400f805d2af8"), looks := true }, kinds := [], alts := [], laidByText := true, laidKinds := [.data, .data, .data, .data, .pinned], laidTests := true, laidLooks := .later }
def GlobStarsUptoCardSaid : Prop := Claim7.holds Tryd.pinned (.plain (OpenSpec.upto globStarsSpec)) globStarsUptoCard

/-- THE SECOND FORM's CARD OF 'isobarlaw3.LabelsKeys'. -/
def labelsKeysUptoCard : Claim7 := { stood := { row := labelsKeysUptoRow, standIns := [], harness := (true, "1c8e2f38087610b5a5a82ea3680daad90a9a8e2d333e248c4951400f805d2af8"), looks := true }, kinds := [], alts := [], laidByText := true, laidKinds := [.data, .data, .data, .sentinel, .sentinel], laidTests := true, laidLooks := .later }
def LabelsKeysUptoCardSaid : Prop := Claim7.holds Tryd.pinned (.plain (OpenSpec.upto labelsKeysSpec)) labelsKeysUptoCard

/-- THE SECOND FORM's CARD OF 'isobarlaw23.GlobLabels'. -/
def globLabelsUptoCard : Claim7 := { stood := { row := globLabelsUptoRow, standIns := [], harness := (true, "1c8e2f38087610b5a5a82ea3680daad90a9a8e2d333e248c4951400f805d2af8"), looks := true }, kinds := [], alts := [], laidByText := true, laidKinds := [.data, .data, .data, .data, .pinned], laidTests := true, laidLooks := .later }
def GlobLabelsUptoCardSaid : Prop := Claim7.holds Tryd.pinned (.plain (OpenSpec.upto globLabelsSpec)) globLabelsUptoCard
end Rows
end Go.Proofs.YtdpigfcnphklgaaDoor
