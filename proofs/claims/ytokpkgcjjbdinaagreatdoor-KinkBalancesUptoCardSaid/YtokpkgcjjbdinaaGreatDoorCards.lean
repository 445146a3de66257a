/-
  DERIVED. GIVEN WITH THE SEED: THE CARDS: each row of YtokpkgcjjbdinaaGreatDoorRows.lean that lists a variable, with what it lists TIED to the program's text (the seventh form; the later family's looks); each row that meets fmt, with fmt's text TOLD by the authors' own Lean function (tested against real Go, not proved from fmt's source: count such statements apart). THE CARD IS WHAT COUNTS. Prove the row's statement (the work); the ties are given (YtokpkgcjjbdinaaGreatDoorTie.lean); close each card by the builder's one call (the guide's Derived/Test/ToyasCard.lean, 'card_holds'). Laid BY PROGRAM, IN A SANDBOX (cutbox-door.mjs). By AI agents, Wed Nov 11 2026. No macro, syntax, notation, axiom, sorry.
-/
import Derived.Test.YtokpkgcjjbdinaaGreatDoorRows
import GoSem.ClaimSeven
namespace Go.Proofs.YtokpkgcjjbdinaaGreatDoor
namespace Rows

/-- THE TIED CARD OF 'klippelaw40.KinkDirections'. -/
def kinkDirectionsCard : Claim7 := { stood := { row := kinkDirectionsRow, standIns := [], harness := (true, "41290eb6bd846fa9b80e9af213432920eff688e46e28f598875dfddccd71d672"), looks := true }, kinds := [], alts := [], laidByText := true, laidKinds := [.data, .data, .data, .sentinel, .sentinel], laidTests := true, laidLooks := .later }
def KinkDirectionsCardSaid : Prop := Claim7.holds Tryz.pinned (.plain (OpenSpec.ofChange kinkDirectionsSpec)) kinkDirectionsCard

/-- THE TIED CARD OF 'klippelaw40.KinkAxes'. -/
def kinkAxesCard : Claim7 := { stood := { row := kinkAxesRow, standIns := [], harness := (true, "41290eb6bd846fa9b80e9af213432920eff688e46e28f598875dfddccd71d672"), looks := true }, kinds := [], alts := [], laidByText := true, laidKinds := [.data, .data, .data, .sentinel, .sentinel], laidTests := true, laidLooks := .later }
def KinkAxesCardSaid : Prop := Claim7.holds Tryz.pinned (.plain (OpenSpec.ofChange kinkAxesSpec)) kinkAxesCard

/-- THE TIED CARD OF 'klippelaw40.KinkPlaces'. -/
def kinkPlacesCard : Claim7 := { stood := { row := kinkPlacesRow, standIns := [], harness := (true, "41290eb6bd846fa9b80e9af213432920eff688e46e28f598875dfddccd71d672"), looks := true }, kinds := [], alts := [], laidByText := true, laidKinds := [.data, .data, .data, .sentinel, .sentinel], laidTests := true, laidLooks := .later }
def KinkPlacesCardSaid : Prop := Claim7.holds Tryz.pinned (.plain (OpenSpec.ofChange kinkPlacesSpec)) kinkPlacesCard

/-- THE TIED CARD OF 'klippelaw40.KinkAreas'. -/
def kinkAreasCard : Claim7 := { stood := { row := kinkAreasRow, standIns := [], harness := (true, "41290eb6bd846fa9b80e9af213432920eff688e46e28f598875dfddccd71d672"), looks := true }, kinds := [], alts := [], laidByText := true, laidKinds := [.data, .data, .data, .sentinel, .sentinel], laidTests := true, laidLooks := .later }
def KinkAreasCardSaid : Prop := Claim7.holds Tryz.pinned (.plain (OpenSpec.ofChange kinkAreasSpec)) kinkAreasCard

/-- THE TIED CARD OF 'klippelaw40.KinkFolds'. -/
def kinkFoldsCard : Claim7 := { stood := { row := kinkFoldsRow, standIns := [], harness := (true, "41290eb6bd846fa9b80e9af213432920eff688e46e28f598875dfddccd71d672"), looks := true }, kinds := [], alts := [], laidByText := true, laidKinds := [.data, .data, .data, .sentinel, .sentinel], laidTests := true, laidLooks := .later }
def KinkFoldsCardSaid : Prop := Claim7.holds Tryz.pinned (.plain (OpenSpec.ofChange kinkFoldsSpec)) kinkFoldsCard

/-- THE TIED CARD OF 'klippelaw40.KinkReturns'. -/
def kinkReturnsCard : Claim7 := { stood := { row := kinkReturnsRow, standIns := [], harness := (true, "41290eb6bd846fa9b80e9af213432920eff688e46e28f598875dfddccd71d672"), looks := true }, kinds := [], alts := [], laidByText := true, laidKinds := [.data, .data, .data, .sentinel, .sentinel], laidTests := true, laidLooks := .later }
def KinkReturnsCardSaid : Prop := Claim7.holds Tryz.pinned (.plain (OpenSpec.ofChange kinkReturnsSpec)) kinkReturnsCard

/-- THE TIED CARD OF 'klippelaw40.KinkHeights'. -/
def kinkHeightsCard : Claim7 := { stood := { row := kinkHeightsRow, standIns := [], harness := (true, "41290eb6bd846fa9b80e9af213432920eff688e46e28f598875dfddccd71d672"), looks := true }, kinds := [], alts := [], laidByText := true, laidKinds := [.data, .data, .data, .sentinel, .sentinel], laidTests := true, laidLooks := .later }
def KinkHeightsCardSaid : Prop := Claim7.holds Tryz.pinned (.plain (OpenSpec.ofChange kinkHeightsSpec)) kinkHeightsCard

/-- THE TIED CARD OF 'klippelaw40.KinkChecks'. -/
def kinkChecksCard : Claim7 := { stood := { row := kinkChecksRow, standIns := [], harness := (true, "41290eb6bd846fa9b80e9af213432920eff688e46e28f598875dfddccd71d672"), looks := true }, kinds := [], alts := [], laidByText := true, laidKinds := [.data, .data, .data, .sentinel, .sentinel], laidTests := true, laidLooks := .later }
def KinkChecksCardSaid : Prop := Claim7.holds Tryz.pinned (.plain (OpenSpec.ofChange kinkChecksSpec)) kinkChecksCard

/-- THE TIED CARD OF 'klippelaw40.KinkBeds'. -/
def kinkBedsCard : Claim7 := { stood := { row := kinkBedsRow, standIns := [], harness := (true, "41290eb6bd846fa9b80e9af213432920eff688e46e28f598875dfddccd71d672"), looks := true }, kinds := [], alts := [], laidByText := true, laidKinds := [.data, .data, .data, .sentinel, .sentinel], laidTests := true, laidLooks := .later }
def KinkBedsCardSaid : Prop := Claim7.holds Tryz.pinned (.plain (OpenSpec.ofChange kinkBedsSpec)) kinkBedsCard

/-- THE TIED CARD OF 'klippelaw40.KinkBalances'. -/
def kinkBalancesCard : Claim7 := { stood := { row := kinkBalancesRow, standIns := [], harness := (true, "41290eb6bd846fa9b80e9af213432920eff688e46e28f598875dfddccd71d672"), looks := true }, kinds := [], alts := [], laidByText := true, laidKinds := [.data, .data, .data, .sentinel, .sentinel], laidTests := true, laidLooks := .later }
def KinkBalancesCardSaid : Prop := Claim7.holds Tryz.pinned (.plain (OpenSpec.ofChange kinkBalancesSpec)) kinkBalancesCard

/-- THE SECOND FORM's CARD OF 'klippelaw40.KinkDirections'. -/
def kinkDirectionsUptoCard : Claim7 := { stood := { row := kinkDirectionsUptoRow, standIns := [], harness := (true, "41290eb6bd846fa9b80e9af213432920eff688e46e28f598875dfddccd71d672"), looks := true }, kinds := [], alts := [], laidByText := true, laidKinds := [.data, .data, .data, .sentinel, .sentinel], laidTests := true, laidLooks := .later }
def KinkDirectionsUptoCardSaid : Prop := Claim7.holds Tryz.pinned (.plain (OpenSpec.upto kinkDirectionsSpec)) kinkDirectionsUptoCard

/-- THE SECOND FORM's CARD OF 'klippelaw40.KinkAxes'. -/
def kinkAxesUptoCard : Claim7 := { stood := { row := kinkAxesUptoRow, standIns := [], harness := (true, "41290eb6bd846fa9b80e9af213432920eff688e46e28f598875dfddccd71d672"), looks := true }, kinds := [], alts := [], laidByText := true, laidKinds := [.data, .data, .data, .sentinel, .sentinel], laidTests := true, laidLooks := .later }
def KinkAxesUptoCardSaid : Prop := Claim7.holds Tryz.pinned (.plain (OpenSpec.upto kinkAxesSpec)) kinkAxesUptoCard

/-- THE SECOND FORM's CARD OF 'klippelaw40.KinkPlaces'. -/
def kinkPlacesUptoCard : Claim7 := { stood := { row := kinkPlacesUptoRow, standIns := [], harness := (true, "41290eb6bd846fa9b80e9af213432920eff688e46e28f598875dfddccd71d672"), looks := true }, kinds := [], alts := [], laidByText := true, laidKinds := [.data, .data, .data, .sentinel, .sentinel], laidTests := true, laidLooks := .later }
def KinkPlacesUptoCardSaid : Prop := Claim7.holds Tryz.pinned (.plain (OpenSpec.upto kinkPlacesSpec)) kinkPlacesUptoCard

/-- THE SECOND FORM's CARD OF 'klippelaw40.KinkAreas'. -/
def kinkAreasUptoCard : Claim7 := { stood := { row := kinkAreasUptoRow, standIns := [], harness := (true, "41290eb6bd846fa9b80e9af213432920eff688e46e28f598875dfddccd71d672"), looks := true }, kinds := [], alts := [], laidByText := true, laidKinds := [.data, .data, .data, .sentinel, .sentinel], laidTests := true, laidLooks := .later }
def KinkAreasUptoCardSaid : Prop := Claim7.holds Tryz.pinned (.plain (OpenSpec.upto kinkAreasSpec)) kinkAreasUptoCard

/-- THE SECOND FORM's CARD OF 'klippelaw40.KinkFolds'. -/
def kinkFoldsUptoCard : Claim7 := { stood := { row := kinkFoldsUptoRow, standIns := [], harness := (true, "41290eb6bd846fa9b80e9af213432920eff688e46e28f598875dfddccd71d672"), looks := true }, kinds := [], alts := [], laidByText := true, laidKinds := [.data, .data, .data, .sentinel, .sentinel], laidTests := true, laidLooks := .later }
def KinkFoldsUptoCardSaid : Prop := Claim7.holds Tryz.pinned (.plain (OpenSpec.upto kinkFoldsSpec)) kinkFoldsUptoCard

/-- THE SECOND FORM's CARD OF 'klippelaw40.KinkReturns'. -/
def kinkReturnsUptoCard : Claim7 := { stood := { row := kinkReturnsUptoRow, standIns := [], harness := (true, "41290eb6bd846fa9b80e9af213432920eff688e46e28f598875dfddccd71d672"), looks := true }, kinds := [], alts := [], laidByText := true, laidKinds := [.data, .data, .data, .sentinel, .sentinel], laidTests := true, laidLooks := .later }
def KinkReturnsUptoCardSaid : Prop := Claim7.holds Tryz.pinned (.plain (OpenSpec.upto kinkReturnsSpec)) kinkReturnsUptoCard

/-- THE SECOND FORM's CARD OF 'klippelaw40.KinkHeights'. -/
def kinkHeightsUptoCard : Claim7 := { stood := { row := kinkHeightsUptoRow, standIns := [], harness := (true, "41290eb6bd846fa9b80e9af213432920eff688e46e28f598875dfddccd71d672"), looks := true }, kinds := [], alts := [], laidByText := true, laidKinds := [.data, .data, .data, .sentinel, .sentinel], laidTests := true, laidLooks := .later }
def KinkHeightsUptoCardSaid : Prop := Claim7.holds Tryz.pinned (.plain (OpenSpec.upto kinkHeightsSpec)) kinkHeightsUptoCard

/-- THE SECOND FORM's CARD OF 'klippelaw40.KinkChecks'. -/
def kinkChecksUptoCard : Claim7 := { stood := { row := kinkChecksUptoRow, standIns := [], harness := (true, "41290eb6bd846fa9b80e9af213432920eff688e46e28f598875dfddccd71d672"), looks := true }, kinds := [], alts := [], laidByText := true, laidKinds := [.data, .data, .data, .sentinel, .sentinel], laidTests := true, laidLooks := .later }
def KinkChecksUptoCardSaid : Prop := Claim7.holds Tryz.pinned (.plain (OpenSpec.upto kinkChecksSpec)) kinkChecksUptoCard

/-- THE SECOND FORM's CARD OF 'klippelaw40.KinkBeds'. -/
def kinkBedsUptoCard : Claim7 := { stood := { row := kinkBedsUptoRow, standIns := [], harness := (true, "41290eb6bd846fa9b80e9af213432920eff688e46e28f598875dfddccd71d672"), looks := true }, kinds := [], alts := [], laidByText := true, laidKinds := [.data, .data, .data, .sentinel, .sentinel], laidTests := true, laidLooks := .later }
def KinkBedsUptoCardSaid : Prop := Claim7.holds Tryz.pinned (.plain (OpenSpec.upto kinkBedsSpec)) kinkBedsUptoCard

/-- THE SECOND FORM's CARD OF 'klippelaw40.KinkBalances'. -/
def kinkBalancesUptoCard : Claim7 := { stood := { row := kinkBalancesUptoRow, standIns := [], harness := (true, "41290eb6bd846fa9b80e9af213432920eff688e46e28f598875dfddccd71d672"), looks := true }, kinds := [], alts := [], laidByText := true, laidKinds := [.data, .data, .data, .sentinel, .sentinel], laidTests := true, laidLooks := .later }
def KinkBalancesUptoCardSaid : Prop := Claim7.holds Tryz.pinned (.plain (OpenSpec.upto kinkBalancesSpec)) kinkBalancesUptoCard
end Rows
end Go.Proofs.YtokpkgcjjbdinaaGreatDoor
