/-
  DERIVED. GIVEN WITH THE SEED: THE CARDS: each row of YtogjcaakfnfapaaDoorRows.lean that lists a variable, with what it lists TIED to the program's text (the seventh form; the later family's looks); each row that meets fmt, with fmt's text TOLD by the authors' own Lean function (tested against real Go, not proved from fmt's source: count such statements apart). THE CARD IS WHAT COUNTS. Prove the row's statement (the work); the ties are given (YtogjcaakfnfapaaDoorTie.lean); close each card by the builder's one call (the guide's Derived/Test/ToyasCard.lean, 'card_holds'). Laid BY PROGRAM, IN A SANDBOX (cutbox-door.mjs). By AI agents, Wed Nov 11 2026. No macro, syntax, notation, axiom, sorry.
-/
import Derived.Test.YtogjcaakfnfapaaDoorRows
import GoSem.ClaimSeven
namespace Go.Proofs.YtogjcaakfnfapaaDoor
namespace Rows

/-- THE TIED CARD OF 'isobarlaw10.AggDoes'. -/
def aggDoesCard : Claim7 := { stood := { row := aggDoesRow, standIns := [], harness := (true, "9a66e516e6e0dd5a558648bb8940cd9a1a71c77db980f3deb95350900f5beb57"), looks := false }, kinds := [], alts := [], laidByText := true, laidKinds := [.data, .data, .data], laidTests := true, laidLooks := .later }
def AggDoesCardSaid : Prop := Claim7.holds Tryd.pinned (.plain (OpenSpec.ofChange aggDoesSpec)) aggDoesCard

/-- THE TIED CARD OF 'isobarlaw10.AggGroups'. -/
def aggGroupsCard : Claim7 := { stood := { row := aggGroupsRow, standIns := [], harness := (true, "9a66e516e6e0dd5a558648bb8940cd9a1a71c77db980f3deb95350900f5beb57"), looks := false }, kinds := [], alts := [], laidByText := true, laidKinds := [.data, .data, .data], laidTests := true, laidLooks := .later }
def AggGroupsCardSaid : Prop := Claim7.holds Tryd.pinned (.plain (OpenSpec.ofChange aggGroupsSpec)) aggGroupsCard

/-- THE TIED CARD OF 'isobarlaw10.AggNames'. -/
def aggNamesCard : Claim7 := { stood := { row := aggNamesRow, standIns := [], harness := (true, "9a66e516e6e0dd5a558648bb8940cd9a1a71c77db980f3deb95350900f5beb57"), looks := false }, kinds := [], alts := [], laidByText := true, laidKinds := [.data, .data, .data], laidTests := true, laidLooks := .later }
def AggNamesCardSaid : Prop := Claim7.holds Tryd.pinned (.plain (OpenSpec.ofChange aggNamesSpec)) aggNamesCard

/-- THE TIED CARD OF 'isobarlaw10.AggRanks'. -/
def aggRanksCard : Claim7 := { stood := { row := aggRanksRow, standIns := [], harness := (true, "9a66e516e6e0dd5a558648bb8940cd9a1a71c77db980f3deb95350900f5beb57"), looks := false }, kinds := [], alts := [], laidByText := true, laidKinds := [.data, .data, .data], laidTests := true, laidLooks := .later }
def AggRanksCardSaid : Prop := Claim7.holds Tryd.pinned (.plain (OpenSpec.ofChange aggRanksSpec)) aggRanksCard

/-- THE TIED CARD OF 'isobarlaw11.JoinSides'. -/
def joinSidesCard : Claim7 := { stood := { row := joinSidesRow, standIns := [], harness := (true, "9a66e516e6e0dd5a558648bb8940cd9a1a71c77db980f3deb95350900f5beb57"), looks := false }, kinds := [], alts := [], laidByText := true, laidKinds := [.data, .data, .data], laidTests := true, laidLooks := .later }
def JoinSidesCardSaid : Prop := Claim7.holds Tryd.pinned (.plain (OpenSpec.ofChange joinSidesSpec)) joinSidesCard

/-- THE TIED CARD OF 'isobarlaw11.JoinSigns'. -/
def joinSignsCard : Claim7 := { stood := { row := joinSignsRow, standIns := [], harness := (true, "9a66e516e6e0dd5a558648bb8940cd9a1a71c77db980f3deb95350900f5beb57"), looks := false }, kinds := [], alts := [], laidByText := true, laidKinds := [.data, .data, .data], laidTests := true, laidLooks := .later }
def JoinSignsCardSaid : Prop := Claim7.holds Tryd.pinned (.plain (OpenSpec.ofChange joinSignsSpec)) joinSignsCard

/-- THE TIED CARD OF 'isobarlaw11.JoinParts'. -/
def joinPartsCard : Claim7 := { stood := { row := joinPartsRow, standIns := [], harness := (true, "9a66e516e6e0dd5a558648bb8940cd9a1a71c77db980f3deb95350900f5beb57"), looks := false }, kinds := [], alts := [], laidByText := true, laidKinds := [.data, .data, .data], laidTests := true, laidLooks := .later }
def JoinPartsCardSaid : Prop := Claim7.holds Tryd.pinned (.plain (OpenSpec.ofChange joinPartsSpec)) joinPartsCard

/-- THE SECOND FORM's CARD OF 'isobarlaw10.AggDoes'. -/
def aggDoesUptoCard : Claim7 := { stood := { row := aggDoesUptoRow, standIns := [], harness := (true, "9a66e516e6e0dd5a558648bb8940cd9a1a71c77db980f3deb95350900f5beb57"), looks := false }, kinds := [], alts := [], laidByText := true, laidKinds := [.data, .data, .data], laidTests := true, laidLooks := .later }
def AggDoesUptoCardSaid : Prop := Claim7.holds Tryd.pinned (.plain (OpenSpec.upto aggDoesSpec)) aggDoesUptoCard

/-- THE SECOND FORM's CARD OF 'isobarlaw10.AggGroups'. -/
def aggGroupsUptoCard : Claim7 := { stood := { row := aggGroupsUptoRow, standIns := [], harness := (true, "9a66e516e6e0dd5a558648bb8940cd9a1a71c77db980f3deb95350900f5beb57"), looks := false }, kinds := [], alts := [], laidByText := true, laidKinds := [.data, .data, .data], laidTests := true, laidLooks := .later }
def AggGroupsUptoCardSaid : Prop := Claim7.holds Tryd.pinned (.plain (OpenSpec.upto aggGroupsSpec)) aggGroupsUptoCard

/-- THE SECOND FORM's CARD OF 'isobarlaw10.AggNames'. -/
def aggNamesUptoCard : Claim7 := { stood := { row := aggNamesUptoRow, standIns := [], harness := (true, "9a66e516e6e0dd5a558648bb8940cd9a1a71c77db980f3deb95350900f5beb57"), looks := false }, kinds := [], alts := [], laidByText := true, laidKinds := [.data, .data, .data], laidTests := true, laidLooks := .later }
def AggNamesUptoCardSaid : Prop := Claim7.holds Tryd.pinned (.plain (OpenSpec.upto aggNamesSpec)) aggNamesUptoCard

/-- THE SECOND FORM's CARD OF 'isobarlaw10.AggRanks'. -/
def aggRanksUptoCard : Claim7 := { stood := { row := aggRanksUptoRow, standIns := [], harness := (true, "9a66e516e6e0dd5a558648bb8940cd9a1a71c77db980f3deb95350900f5beb57"), looks := false }, kinds := [], alts := [], laidByText := true, laidKinds := [.data, .data, .data], laidTests := true, laidLooks := .later }
def AggRanksUptoCardSaid : Prop := Claim7.holds Tryd.pinned (.plain (OpenSpec.upto aggRanksSpec)) aggRanksUptoCard

/-- THE SECOND FORM's CARD OF 'isobarlaw11.JoinSides'. -/
def joinSidesUptoCard : Claim7 := { stood := { row := joinSidesUptoRow, standIns := [], harness := (true, "9a66e516e6e0dd5a558648bb8940cd9a1a71c77db980f3deb95350900f5beb57"), looks := false }, kinds := [], alts := [], laidByText := true, laidKinds := [.data, .data, .data], laidTests := true, laidLooks := .later }
def JoinSidesUptoCardSaid : Prop := Claim7.holds Tryd.pinned (.plain (OpenSpec.upto joinSidesSpec)) joinSidesUptoCard

/-- THE SECOND FORM's CARD OF 'isobarlaw11.JoinSigns'. -/
def joinSignsUptoCard : Claim7 := { stood := { row := joinSignsUptoRow, standIns := [], harness := (true, "9a66e516e6e0dd5a558648bb8940cd9a1a71c77db980f3deb95350900f5beb57"), looks := false }, kinds := [], alts := [], laidByText := true, laidKinds := [.data, .data, .data], laidTests := true, laidLooks := .later }
def JoinSignsUptoCardSaid : Prop := Claim7.holds Tryd.pinned (.plain (OpenSpec.upto joinSignsSpec)) joinSignsUptoCard

/-- THE SECOND FORM's CARD OF 'isobarlaw11.JoinParts'. -/
def joinPartsUptoCard : Claim7 := { stood := { row := joinPartsUptoRow, standIns := [], harness := (true, "9a66e516e6e0dd5a558648bb8940cd9a1a71c77db980f3deb95350900f5beb57"), looks := false }, kinds := [], alts := [], laidByText := true, laidKinds := [.data, .data, .data], laidTests := true, laidLooks := .later }
def JoinPartsUptoCardSaid : Prop := Claim7.holds Tryd.pinned (.plain (OpenSpec.upto joinPartsSpec)) joinPartsUptoCard
end Rows
end Go.Proofs.YtogjcaakfnfapaaDoor
