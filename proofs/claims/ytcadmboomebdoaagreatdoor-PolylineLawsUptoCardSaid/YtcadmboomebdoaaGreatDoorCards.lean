/-
  DERIVED. GIVEN WITH THE SEED: THE CARDS: each row of YtcadmboomebdoaaGreatDoorRows.lean that lists a variable, with what it lists TIED to the program's text (the seventh form; the later family's looks); each row that meets fmt, with fmt's text TOLD by the authors' own Lean function (tested against real Go, not proved from fmt's source: count such statements apart). THE CARD IS WHAT COUNTS. Prove the row's statement (the work); the ties are given (YtcadmboomebdoaaGreatDoorTie.lean); close each card by the builder's one call (the guide's Derived/Test/ToyasCard.lean, 'card_holds'). Laid BY PROGRAM, IN A SANDBOX (cutbox-door.mjs). By AI agents, Wed Nov 11 2026. No macro, syntax, notation, axiom, sorry.
-/
import Derived.Test.YtcadmboomebdoaaGreatDoorRows
import GoSem.ClaimSeven
namespace Go.Proofs.YtcadmboomebdoaaGreatDoor
namespace Rows

/-- THE TIED CARD OF 'klippelaw11.PolylineCrosses'. -/
def polylineCrossesCard : Claim7 := { stood := { row := polylineCrossesRow, standIns := [], harness := (true, "e509b1a63383e86863637932edc9b4b16956ca8ddd7e81947a022eabf574efde"), looks := true }, kinds := [], alts := [], laidByText := true, laidKinds := [.data, .data, .data, .sentinel, .sentinel], laidTests := true, laidLooks := .later }
def PolylineCrossesCardSaid : Prop := Claim7.holds Tryz.pinned (.plain (OpenSpec.ofChange polylineCrossesSpec)) polylineCrossesCard

/-- THE TIED CARD OF 'klippelaw11.PolylineSimplifies'. -/
def polylineSimplifiesCard : Claim7 := { stood := { row := polylineSimplifiesRow, standIns := [], harness := (true, "e509b1a63383e86863637932edc9b4b16956ca8ddd7e81947a022eabf574efde"), looks := true }, kinds := [], alts := [], laidByText := true, laidKinds := [.data, .data, .data, .sentinel, .sentinel], laidTests := true, laidLooks := .later }
def PolylineSimplifiesCardSaid : Prop := Claim7.holds Tryz.pinned (.plain (OpenSpec.ofChange polylineSimplifiesSpec)) polylineSimplifiesCard

/-- THE TIED CARD OF 'klippelaw11.PolylineLocates'. -/
def polylineLocatesCard : Claim7 := { stood := { row := polylineLocatesRow, standIns := [], harness := (true, "e509b1a63383e86863637932edc9b4b16956ca8ddd7e81947a022eabf574efde"), looks := true }, kinds := [], alts := [], laidByText := true, laidKinds := [.data, .data, .data, .sentinel, .sentinel], laidTests := true, laidLooks := .later }
def PolylineLocatesCardSaid : Prop := Claim7.holds Tryz.pinned (.plain (OpenSpec.ofChange polylineLocatesSpec)) polylineLocatesCard

/-- THE TIED CARD OF 'klippelaw11.PolylineAreas'. -/
def polylineAreasCard : Claim7 := { stood := { row := polylineAreasRow, standIns := [], harness := (true, "e509b1a63383e86863637932edc9b4b16956ca8ddd7e81947a022eabf574efde"), looks := true }, kinds := [], alts := [], laidByText := true, laidKinds := [.data, .data, .data, .sentinel, .sentinel], laidTests := true, laidLooks := .later }
def PolylineAreasCardSaid : Prop := Claim7.holds Tryz.pinned (.plain (OpenSpec.ofChange polylineAreasSpec)) polylineAreasCard

/-- THE TIED CARD OF 'klippelaw11.PolylineSplits'. -/
def polylineSplitsCard : Claim7 := { stood := { row := polylineSplitsRow, standIns := [], harness := (true, "e509b1a63383e86863637932edc9b4b16956ca8ddd7e81947a022eabf574efde"), looks := true }, kinds := [], alts := [], laidByText := true, laidKinds := [.data, .data, .data, .sentinel, .sentinel], laidTests := true, laidLooks := .later }
def PolylineSplitsCardSaid : Prop := Claim7.holds Tryz.pinned (.plain (OpenSpec.ofChange polylineSplitsSpec)) polylineSplitsCard

/-- THE TIED CARD OF 'klippelaw11.PolylineLengths'. -/
def polylineLengthsCard : Claim7 := { stood := { row := polylineLengthsRow, standIns := [], harness := (true, "e509b1a63383e86863637932edc9b4b16956ca8ddd7e81947a022eabf574efde"), looks := true }, kinds := [], alts := [], laidByText := true, laidKinds := [.data, .data, .data, .sentinel, .sentinel], laidTests := true, laidLooks := .later }
def PolylineLengthsCardSaid : Prop := Claim7.holds Tryz.pinned (.plain (OpenSpec.ofChange polylineLengthsSpec)) polylineLengthsCard

/-- THE TIED CARD OF 'klippelaw11.PolylineLaws'. -/
def polylineLawsCard : Claim7 := { stood := { row := polylineLawsRow, standIns := [], harness := (true, "e509b1a63383e86863637932edc9b4b16956ca8ddd7e81947a022eabf574efde"), looks := true }, kinds := [], alts := [], laidByText := true, laidKinds := [.data, .data, .data, .sentinel, .sentinel], laidTests := true, laidLooks := .later }
def PolylineLawsCardSaid : Prop := Claim7.holds Tryz.pinned (.plain (OpenSpec.ofChange polylineLawsSpec)) polylineLawsCard

/-- THE TIED CARD OF 'klippelaw11.PolylineChecks'. -/
def polylineChecksCard : Claim7 := { stood := { row := polylineChecksRow, standIns := [], harness := (true, "e509b1a63383e86863637932edc9b4b16956ca8ddd7e81947a022eabf574efde"), looks := true }, kinds := [], alts := [], laidByText := true, laidKinds := [.data, .data, .data, .sentinel, .sentinel], laidTests := true, laidLooks := .later }
def PolylineChecksCardSaid : Prop := Claim7.holds Tryz.pinned (.plain (OpenSpec.ofChange polylineChecksSpec)) polylineChecksCard

/-- THE SECOND FORM's CARD OF 'klippelaw11.PolylineCrosses'. -/
def polylineCrossesUptoCard : Claim7 := { stood := { row := polylineCrossesUptoRow, standIns := [], harness := (true, "e509b1a63383e86863637932edc9b4b16956ca8ddd7e81947a022eabf574efde"), looks := true }, kinds := [], alts := [], laidByText := true, laidKinds := [.data, .data, .data, .sentinel, .sentinel], laidTests := true, laidLooks := .later }
def PolylineCrossesUptoCardSaid : Prop := Claim7.holds Tryz.pinned (.plain (OpenSpec.upto polylineCrossesSpec)) polylineCrossesUptoCard

/-- THE SECOND FORM's CARD OF 'klippelaw11.PolylineSimplifies'. -/
def polylineSimplifiesUptoCard : Claim7 := { stood := { row := polylineSimplifiesUptoRow, standIns := [], harness := (true, "e509b1a63383e86863637932edc9b4b16956ca8ddd7e81947a022eabf574efde"), looks := true }, kinds := [], alts := [], laidByText := true, laidKinds := [.data, .data, .data, .sentinel, .sentinel], laidTests := true, laidLooks := .later }
def PolylineSimplifiesUptoCardSaid : Prop := Claim7.holds Tryz.pinned (.plain (OpenSpec.upto polylineSimplifiesSpec)) polylineSimplifiesUptoCard

/-- THE SECOND FORM's CARD OF 'klippelaw11.PolylineLocates'. -/
def polylineLocatesUptoCard : Claim7 := { stood := { row := polylineLocatesUptoRow, standIns := [], harness := (true, "e509b1a63383e86863637932edc9b4b16956ca8ddd7e81947a022eabf574efde"), looks := true }, kinds := [], alts := [], laidByText := true, laidKinds := [.data, .data, .data, .sentinel, .sentinel], laidTests := true, laidLooks := .later }
def PolylineLocatesUptoCardSaid : Prop := Claim7.holds Tryz.pinned (.plain (OpenSpec.upto polylineLocatesSpec)) polylineLocatesUptoCard

/-- THE SECOND FORM's CARD OF 'klippelaw11.PolylineAreas'. -/
def polylineAreasUptoCard : Claim7 := { stood := { row := polylineAreasUptoRow, standIns := [], harness := (true, "e509b1a63383e86863637932edc9b4b16956ca8ddd7e81947a022eabf574efde"), looks := true }, kinds := [], alts := [], laidByText := true, laidKinds := [.data, .data, .data, .sentinel, .sentinel], laidTests := true, laidLooks := .later }
def PolylineAreasUptoCardSaid : Prop := Claim7.holds Tryz.pinned (.plain (OpenSpec.upto polylineAreasSpec)) polylineAreasUptoCard

/-- THE SECOND FORM's CARD OF 'klippelaw11.PolylineSplits'. -/
def polylineSplitsUptoCard : Claim7 := { stood := { row := polylineSplitsUptoRow, standIns := [], harness := (true, "e509b1a63383e86863637932edc9b4b16956ca8ddd7e81947a022eabf574efde"), looks := true }, kinds := [], alts := [], laidByText := true, laidKinds := [.data, .data, .data, .sentinel, .sentinel], laidTests := true, laidLooks := .later }
def PolylineSplitsUptoCardSaid : Prop := Claim7.holds Tryz.pinned (.plain (OpenSpec.upto polylineSplitsSpec)) polylineSplitsUptoCard

/-- THE SECOND FORM's CARD OF 'klippelaw11.PolylineLengths'. -/
def polylineLengthsUptoCard : Claim7 := { stood := { row := polylineLengthsUptoRow, standIns := [], harness := (true, "e509b1a63383e86863637932edc9b4b16956ca8ddd7e81947a022eabf574efde"), looks := true }, kinds := [], alts := [], laidByText := true, laidKinds := [.data, .data, .data, .sentinel, .sentinel], laidTests := true, laidLooks := .later }
def PolylineLengthsUptoCardSaid : Prop := Claim7.holds Tryz.pinned (.plain (OpenSpec.upto polylineLengthsSpec)) polylineLengthsUptoCard

/-- THE SECOND FORM's CARD OF 'klippelaw11.PolylineLaws'. -/
def polylineLawsUptoCard : Claim7 := { stood := { row := polylineLawsUptoRow, standIns := [], harness := (true, "e509b1a63383e86863637932edc9b4b16956ca8ddd7e81947a022eabf574efde"), looks := true }, kinds := [], alts := [], laidByText := true, laidKinds := [.data, .data, .data, .sentinel, .sentinel], laidTests := true, laidLooks := .later }
def PolylineLawsUptoCardSaid : Prop := Claim7.holds Tryz.pinned (.plain (OpenSpec.upto polylineLawsSpec)) polylineLawsUptoCard

/-- THE SECOND FORM's CARD OF 'klippelaw11.PolylineChecks'. -/
def polylineChecksUptoCard : Claim7 := { stood := { row := polylineChecksUptoRow, standIns := [], harness := (true, "e509b1a63383e86863637932edc9b4b16956ca8ddd7e81947a022eabf574efde"), looks := true }, kinds := [], alts := [], laidByText := true, laidKinds := [.data, .data, .data, .sentinel, .sentinel], laidTests := true, laidLooks := .later }
def PolylineChecksUptoCardSaid : Prop := Claim7.holds Tryz.pinned (.plain (OpenSpec.upto polylineChecksSpec)) polylineChecksUptoCard
end Rows
end Go.Proofs.YtcadmboomebdoaaGreatDoor
