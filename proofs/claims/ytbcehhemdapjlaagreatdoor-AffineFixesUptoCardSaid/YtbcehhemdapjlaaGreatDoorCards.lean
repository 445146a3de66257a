/-
  DERIVED. GIVEN WITH THE SEED: THE CARDS: each row of YtbcehhemdapjlaaGreatDoorRows.lean that lists a variable, with what it lists TIED to the program's text (the seventh form; the later family's looks); each row that meets fmt, with fmt's text TOLD by the authors' own Lean function (tested against real Go, not proved from fmt's source: count such statements apart). THE CARD IS WHAT COUNTS. Prove the row's statement (the work); the ties are given (YtbcehhemdapjlaaGreatDoorTie.lean); close each card by the builder's one call (the guide's Derived/Test/ToyasCard.lean, 'card_holds'). Laid BY PROGRAM, IN A SANDBOX (cutbox-door.mjs). By AI agents, Wed Nov 11 2026. No macro, syntax, notation, axiom, sorry.
-/
import Derived.Test.YtbcehhemdapjlaaGreatDoorRows
import GoSem.ClaimSeven
namespace Go.Proofs.YtbcehhemdapjlaaGreatDoor
namespace Rows

/-- THE TIED CARD OF 'klippelaw08.AffineFixes'. -/
def affineFixesCard : Claim7 := { stood := { row := affineFixesRow, standIns := [], harness := (true, "8d75c06147a0379eef940cf549b72b97e07b5412c6727bc67cbfc46342e9198b"), looks := true }, kinds := [], alts := [], laidByText := true, laidKinds := [.data, .data, .data, .sentinel, .sentinel], laidTests := true, laidLooks := .later }
def AffineFixesCardSaid : Prop := Claim7.holds Tryz.pinned (.plain (OpenSpec.ofChange affineFixesSpec)) affineFixesCard

/-- THE TIED CARD OF 'klippelaw08.AffineApplies'. -/
def affineAppliesCard : Claim7 := { stood := { row := affineAppliesRow, standIns := [], harness := (true, "8d75c06147a0379eef940cf549b72b97e07b5412c6727bc67cbfc46342e9198b"), looks := true }, kinds := [], alts := [], laidByText := true, laidKinds := [.data, .data, .data, .sentinel, .sentinel], laidTests := true, laidLooks := .later }
def AffineAppliesCardSaid : Prop := Claim7.holds Tryz.pinned (.plain (OpenSpec.ofChange affineAppliesSpec)) affineAppliesCard

/-- THE TIED CARD OF 'klippelaw08.AffineMakes'. -/
def affineMakesCard : Claim7 := { stood := { row := affineMakesRow, standIns := [], harness := (true, "8d75c06147a0379eef940cf549b72b97e07b5412c6727bc67cbfc46342e9198b"), looks := true }, kinds := [], alts := [], laidByText := true, laidKinds := [.data, .data, .data, .sentinel, .sentinel], laidTests := true, laidLooks := .later }
def AffineMakesCardSaid : Prop := Claim7.holds Tryz.pinned (.plain (OpenSpec.ofChange affineMakesSpec)) affineMakesCard

/-- THE TIED CARD OF 'klippelaw08.AffineInverts'. -/
def affineInvertsCard : Claim7 := { stood := { row := affineInvertsRow, standIns := [], harness := (true, "8d75c06147a0379eef940cf549b72b97e07b5412c6727bc67cbfc46342e9198b"), looks := true }, kinds := [], alts := [], laidByText := true, laidKinds := [.data, .data, .data, .sentinel, .sentinel], laidTests := true, laidLooks := .later }
def AffineInvertsCardSaid : Prop := Claim7.holds Tryz.pinned (.plain (OpenSpec.ofChange affineInvertsSpec)) affineInvertsCard

/-- THE TIED CARD OF 'klippelaw08.AffinePlanes'. -/
def affinePlanesCard : Claim7 := { stood := { row := affinePlanesRow, standIns := [], harness := (true, "8d75c06147a0379eef940cf549b72b97e07b5412c6727bc67cbfc46342e9198b"), looks := true }, kinds := [], alts := [], laidByText := true, laidKinds := [.data, .data, .data, .sentinel, .sentinel], laidTests := true, laidLooks := .later }
def AffinePlanesCardSaid : Prop := Claim7.holds Tryz.pinned (.plain (OpenSpec.ofChange affinePlanesSpec)) affinePlanesCard

/-- THE TIED CARD OF 'klippelaw08.AffineKeeps'. -/
def affineKeepsCard : Claim7 := { stood := { row := affineKeepsRow, standIns := [], harness := (true, "8d75c06147a0379eef940cf549b72b97e07b5412c6727bc67cbfc46342e9198b"), looks := true }, kinds := [], alts := [], laidByText := true, laidKinds := [.data, .data, .data, .sentinel, .sentinel], laidTests := true, laidLooks := .later }
def AffineKeepsCardSaid : Prop := Claim7.holds Tryz.pinned (.plain (OpenSpec.ofChange affineKeepsSpec)) affineKeepsCard

/-- THE TIED CARD OF 'klippelaw08.AffineComposes'. -/
def affineComposesCard : Claim7 := { stood := { row := affineComposesRow, standIns := [], harness := (true, "8d75c06147a0379eef940cf549b72b97e07b5412c6727bc67cbfc46342e9198b"), looks := true }, kinds := [], alts := [], laidByText := true, laidKinds := [.data, .data, .data, .sentinel, .sentinel], laidTests := true, laidLooks := .later }
def AffineComposesCardSaid : Prop := Claim7.holds Tryz.pinned (.plain (OpenSpec.ofChange affineComposesSpec)) affineComposesCard

/-- THE TIED CARD OF 'klippelaw08.AffinePlaces'. -/
def affinePlacesCard : Claim7 := { stood := { row := affinePlacesRow, standIns := [], harness := (true, "8d75c06147a0379eef940cf549b72b97e07b5412c6727bc67cbfc46342e9198b"), looks := true }, kinds := [], alts := [], laidByText := true, laidKinds := [.data, .data, .data, .sentinel, .sentinel], laidTests := true, laidLooks := .later }
def AffinePlacesCardSaid : Prop := Claim7.holds Tryz.pinned (.plain (OpenSpec.ofChange affinePlacesSpec)) affinePlacesCard

/-- THE TIED CARD OF 'klippelaw08.AffineLaws'. -/
def affineLawsCard : Claim7 := { stood := { row := affineLawsRow, standIns := [], harness := (true, "8d75c06147a0379eef940cf549b72b97e07b5412c6727bc67cbfc46342e9198b"), looks := true }, kinds := [], alts := [], laidByText := true, laidKinds := [.data, .data, .data, .sentinel, .sentinel], laidTests := true, laidLooks := .later }
def AffineLawsCardSaid : Prop := Claim7.holds Tryz.pinned (.plain (OpenSpec.ofChange affineLawsSpec)) affineLawsCard

/-- THE TIED CARD OF 'klippelaw08.AffineChecks'. -/
def affineChecksCard : Claim7 := { stood := { row := affineChecksRow, standIns := [], harness := (true, "8d75c06147a0379eef940cf549b72b97e07b5412c6727bc67cbfc46342e9198b"), looks := true }, kinds := [], alts := [], laidByText := true, laidKinds := [.data, .data, .data, .sentinel, .sentinel], laidTests := true, laidLooks := .later }
def AffineChecksCardSaid : Prop := Claim7.holds Tryz.pinned (.plain (OpenSpec.ofChange affineChecksSpec)) affineChecksCard

/-- THE SECOND FORM's CARD OF 'klippelaw08.AffineFixes'. -/
def affineFixesUptoCard : Claim7 := { stood := { row := affineFixesUptoRow, standIns := [], harness := (true, "8d75c06147a0379eef940cf549b72b97e07b5412c6727bc67cbfc46342e9198b"), looks := true }, kinds := [], alts := [], laidByText := true, laidKinds := [.data, .data, .data, .sentinel, .sentinel], laidTests := true, laidLooks := .later }
def AffineFixesUptoCardSaid : Prop := Claim7.holds Tryz.pinned (.plain (OpenSpec.upto affineFixesSpec)) affineFixesUptoCard

/-- THE SECOND FORM's CARD OF 'klippelaw08.AffineApplies'. -/
def affineAppliesUptoCard : Claim7 := { stood := { row := affineAppliesUptoRow, standIns := [], harness := (true, "8d75c06147a0379eef940cf549b72b97e07b5412c6727bc67cbfc46342e9198b"), looks := true }, kinds := [], alts := [], laidByText := true, laidKinds := [.data, .data, .data, .sentinel, .sentinel], laidTests := true, laidLooks := .later }
def AffineAppliesUptoCardSaid : Prop := Claim7.holds Tryz.pinned (.plain (OpenSpec.upto affineAppliesSpec)) affineAppliesUptoCard

/-- THE SECOND FORM's CARD OF 'klippelaw08.AffineMakes'. -/
def affineMakesUptoCard : Claim7 := { stood := { row := affineMakesUptoRow, standIns := [], harness := (true, "8d75c06147a0379eef940cf549b72b97e07b5412c6727bc67cbfc46342e9198b"), looks := true }, kinds := [], alts := [], laidByText := true, laidKinds := [.data, .data, .data, .sentinel, .sentinel], laidTests := true, laidLooks := .later }
def AffineMakesUptoCardSaid : Prop := Claim7.holds Tryz.pinned (.plain (OpenSpec.upto affineMakesSpec)) affineMakesUptoCard

/-- THE SECOND FORM's CARD OF 'klippelaw08.AffineInverts'. -/
def affineInvertsUptoCard : Claim7 := { stood := { row := affineInvertsUptoRow, standIns := [], harness := (true, "8d75c06147a0379eef940cf549b72b97e07b5412c6727bc67cbfc46342e9198b"), looks := true }, kinds := [], alts := [], laidByText := true, laidKinds := [.data, .data, .data, .sentinel, .sentinel], laidTests := true, laidLooks := .later }
def AffineInvertsUptoCardSaid : Prop := Claim7.holds Tryz.pinned (.plain (OpenSpec.upto affineInvertsSpec)) affineInvertsUptoCard

/-- THE SECOND FORM's CARD OF 'klippelaw08.AffinePlanes'. -/
def affinePlanesUptoCard : Claim7 := { stood := { row := affinePlanesUptoRow, standIns := [], harness := (true, "8d75c06147a0379eef940cf549b72b97e07b5412c6727bc67cbfc46342e9198b"), looks := true }, kinds := [], alts := [], laidByText := true, laidKinds := [.data, .data, .data, .sentinel, .sentinel], laidTests := true, laidLooks := .later }
def AffinePlanesUptoCardSaid : Prop := Claim7.holds Tryz.pinned (.plain (OpenSpec.upto affinePlanesSpec)) affinePlanesUptoCard

/-- THE SECOND FORM's CARD OF 'klippelaw08.AffineKeeps'. -/
def affineKeepsUptoCard : Claim7 := { stood := { row := affineKeepsUptoRow, standIns := [], harness := (true, "8d75c06147a0379eef940cf549b72b97e07b5412c6727bc67cbfc46342e9198b"), looks := true }, kinds := [], alts := [], laidByText := true, laidKinds := [.data, .data, .data, .sentinel, .sentinel], laidTests := true, laidLooks := .later }
def AffineKeepsUptoCardSaid : Prop := Claim7.holds Tryz.pinned (.plain (OpenSpec.upto affineKeepsSpec)) affineKeepsUptoCard

/-- THE SECOND FORM's CARD OF 'klippelaw08.AffineComposes'. -/
def affineComposesUptoCard : Claim7 := { stood := { row := affineComposesUptoRow, standIns := [], harness := (true, "8d75c06147a0379eef940cf549b72b97e07b5412c6727bc67cbfc46342e9198b"), looks := true }, kinds := [], alts := [], laidByText := true, laidKinds := [.data, .data, .data, .sentinel, .sentinel], laidTests := true, laidLooks := .later }
def AffineComposesUptoCardSaid : Prop := Claim7.holds Tryz.pinned (.plain (OpenSpec.upto affineComposesSpec)) affineComposesUptoCard

/-- THE SECOND FORM's CARD OF 'klippelaw08.AffinePlaces'. -/
def affinePlacesUptoCard : Claim7 := { stood := { row := affinePlacesUptoRow, standIns := [], harness := (true, "8d75c06147a0379eef940cf549b72b97e07b5412c6727bc67cbfc46342e9198b"), looks := true }, kinds := [], alts := [], laidByText := true, laidKinds := [.data, .data, .data, .sentinel, .sentinel], laidTests := true, laidLooks := .later }
def AffinePlacesUptoCardSaid : Prop := Claim7.holds Tryz.pinned (.plain (OpenSpec.upto affinePlacesSpec)) affinePlacesUptoCard

/-- THE SECOND FORM's CARD OF 'klippelaw08.AffineLaws'. -/
def affineLawsUptoCard : Claim7 := { stood := { row := affineLawsUptoRow, standIns := [], harness := (true, "8d75c06147a0379eef940cf549b72b97e07b5412c6727bc67cbfc46342e9198b"), looks := true }, kinds := [], alts := [], laidByText := true, laidKinds := [.data, .data, .data, .sentinel, .sentinel], laidTests := true, laidLooks := .later }
def AffineLawsUptoCardSaid : Prop := Claim7.holds Tryz.pinned (.plain (OpenSpec.upto affineLawsSpec)) affineLawsUptoCard

/-- THE SECOND FORM's CARD OF 'klippelaw08.AffineChecks'. -/
def affineChecksUptoCard : Claim7 := { stood := { row := affineChecksUptoRow, standIns := [], harness := (true, "8d75c06147a0379eef940cf549b72b97e07b5412c6727bc67cbfc46342e9198b"), looks := true }, kinds := [], alts := [], laidByText := true, laidKinds := [.data, .data, .data, .sentinel, .sentinel], laidTests := true, laidLooks := .later }
def AffineChecksUptoCardSaid : Prop := Claim7.holds Tryz.pinned (.plain (OpenSpec.upto affineChecksSpec)) affineChecksUptoCard
end Rows
end Go.Proofs.YtbcehhemdapjlaaGreatDoor
