/-
  DERIVED. GIVEN WITH THE SEED: THE CARDS: each row of YtnnfhcbopchodaaDoorRows.lean that lists a variable, with what it lists TIED to the program's text (the seventh form; the later family's looks); each row that meets fmt, with fmt's text TOLD by the authors' own Lean function (tested against real Go, not proved from fmt's source: count such statements apart). THE CARD IS WHAT COUNTS. Prove the row's statement (the work); the ties are given (YtnnfhcbopchodaaDoorTie.lean); close each card by the builder's one call (the guide's Derived/Test/ToyasCard.lean, 'card_holds'). Laid BY PROGRAM, IN A SANDBOX (cutbox-door.mjs). By AI agents, Wed Nov 11 2026. No macro, syntax, notation, axiom, sorry.
-/
import Derived.Test.YtnnfhcbopchodaaDoorRows
import GoSem.ClaimSeven
namespace Go.Proofs.YtnnfhcbopchodaaDoor
namespace Rows

/-- THE TIED CARD OF 'isobarlaw23.GlobNodes'. -/
def globNodesCard : Claim7 := { stood := { row := globNodesRow, standIns := [], harness := (true, "6c423dc0d4601483198a0d7176ef5b486aecd8088cad2b4f4e2b287b2023c276"), looks := false }, kinds := [], alts := [], laidByText := true, laidKinds := [.data, .data, .data, .data, .pinned], laidTests := true, laidLooks := .later }
def GlobNodesCardSaid : Prop := Claim7.holds Tryd.pinned (.plain (OpenSpec.ofChange globNodesSpec)) globNodesCard

/-- THE TIED CARD OF 'isobarlaw23.GlobStars'. -/
def globStarsCard : Claim7 := { stood := { row := globStarsRow, standIns := [], harness := (true, "6c423dc0d4601483198a0d7176ef5b486aecd8088cad2b4f4e2b287b2023c276"), looks := false }, kinds := [], alts := [], laidByText := true, laidKinds := [.data, .data, .data, .data, .pinned], laidTests := true, laidLooks := .later }
def GlobStarsCardSaid : Prop := Claim7.holds Tryd.pinned (.plain (OpenSpec.ofChange globStarsSpec)) globStarsCard

/-- THE TIED CARD OF 'isobarlaw23.GlobLabels'. -/
def globLabelsCard : Claim7 := { stood := { row := globLabelsRow, standIns := [], harness := (true, "6c423dc0d4601483198a0d7176ef5b486aecd8088cad2b4f4e2b287b2023c276"), looks := false }, kinds := [], alts := [], laidByText := true, laidKinds := [.data, .data, .data, .data, .pinned], laidTests := true, laidLooks := .later }
def GlobLabelsCardSaid : Prop := Claim7.holds Tryd.pinned (.plain (OpenSpec.ofChange globLabelsSpec)) globLabelsCard

/-- THE SECOND FORM's CARD OF 'isobarlaw23.GlobNodes'. -/
def globNodesUptoCard : Claim7 := { stood := { row := globNodesUptoRow, standIns := [], harness := (true, "6c423dc0d4601483198a0d7176ef5b486aecd8088cad2b4f4e2b287b2023c276"), looks := false }, kinds := [], alts := [], laidByText := true, laidKinds := [.data, .data, .data, .data, .pinned], laidTests := true, laidLooks := .later }
def GlobNodesUptoCardSaid : Prop := Claim7.holds Tryd.pinned (.plain (OpenSpec.upto globNodesSpec)) globNodesUptoCard

/-- THE SECOND FORM's CARD OF 'isobarlaw23.GlobStars'. -/
def globStarsUptoCard : Claim7 := { stood := { row := globStarsUptoRow, standIns := [], harness := (true, "6c423dc0d4601483198a0d7176ef5b486aecd8088cad2b4f4e2b287b2023c276"), looks := false }, kinds := [], alts := [], laidByText := true, laidKinds := [.data, .data, .data, .data, .pinned], laidTests := true, laidLooks := .later }
def GlobStarsUptoCardSaid : Prop := Claim7.holds Tryd.pinned (.plain (OpenSpec.upto globStarsSpec)) globStarsUptoCard

/-- THE SECOND FORM's CARD OF 'isobarlaw23.GlobLabels'. -/
def globLabelsUptoCard : Claim7 := { stood := { row := globLabelsUptoRow, standIns := [], harness := (true, "6c423dc0d4601483198a0d7176ef5b486aecd8088cad2b4f4e2b287b2023c276"), looks := false }, kinds := [], alts := [], laidByText := true, laidKinds := [.data, .data, .data, .data, .pinned], laidTests := true, laidLooks := .later }
def GlobLabelsUptoCardSaid : Prop := Claim7.holds Tryd.pinned (.plain (OpenSpec.upto globLabelsSpec)) globLabelsUptoCard
end Rows
end Go.Proofs.YtnnfhcbopchodaaDoor
