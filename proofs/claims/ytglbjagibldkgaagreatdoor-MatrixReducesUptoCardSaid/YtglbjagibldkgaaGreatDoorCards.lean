/-
  DERIVED. GIVEN WITH THE SEED: THE CARDS: each row of YtglbjagibldkgaaGreatDoorRows.lean that lists a variable, with what it lists TIED to the program's text (the seventh form; the later family's looks); each row that meets fmt, with fmt's text TOLD by the authors' own Lean function (tested against real Go, not proved from fmt's source: count such statements apart). THE CARD IS WHAT COUNTS. Prove the row's statement (the work); the ties are given (YtglbjagibldkgaaGreatDoorTie.lean); close each card by the builder's one call (the guide's Derived/Test/ToyasCard.lean, 'card_holds'). Laid BY PROGRAM, IN A SANDBOX (cutbox-door.mjs). By AI agents, Wed Nov 11 2026. No macro, syntax, notation, axiom, sorry.
-/
import Derived.Test.YtglbjagibldkgaaGreatDoorRows
import GoSem.ClaimSeven
namespace Go.Proofs.YtglbjagibldkgaaGreatDoor
namespace Rows

/-- THE TIED CARD OF 'klippelaw06.MatrixForms'. -/
def matrixFormsCard : Claim7 := { stood := { row := matrixFormsRow, standIns := [], harness := (true, "b05ca8306e77ef872243ced4d8f71a1122decb50e322eb32d1541f9f6a2b2dd5"), looks := true }, kinds := [], alts := [], laidByText := true, laidKinds := [.data, .data, .data, .sentinel, .sentinel], laidTests := true, laidLooks := .later }
def MatrixFormsCardSaid : Prop := Claim7.holds Tryz.pinned (.plain (OpenSpec.ofChange matrixFormsSpec)) matrixFormsCard

/-- THE TIED CARD OF 'klippelaw06.MatrixReduces'. -/
def matrixReducesCard : Claim7 := { stood := { row := matrixReducesRow, standIns := [], harness := (true, "b05ca8306e77ef872243ced4d8f71a1122decb50e322eb32d1541f9f6a2b2dd5"), looks := true }, kinds := [], alts := [], laidByText := true, laidKinds := [.data, .data, .data, .sentinel, .sentinel], laidTests := true, laidLooks := .later }
def MatrixReducesCardSaid : Prop := Claim7.holds Tryz.pinned (.plain (OpenSpec.ofChange matrixReducesSpec)) matrixReducesCard

/-- THE TIED CARD OF 'klippelaw06.MatrixApplies'. -/
def matrixAppliesCard : Claim7 := { stood := { row := matrixAppliesRow, standIns := [], harness := (true, "b05ca8306e77ef872243ced4d8f71a1122decb50e322eb32d1541f9f6a2b2dd5"), looks := true }, kinds := [], alts := [], laidByText := true, laidKinds := [.data, .data, .data, .sentinel, .sentinel], laidTests := true, laidLooks := .later }
def MatrixAppliesCardSaid : Prop := Claim7.holds Tryz.pinned (.plain (OpenSpec.ofChange matrixAppliesSpec)) matrixAppliesCard

/-- THE TIED CARD OF 'klippelaw06.MatrixSolves'. -/
def matrixSolvesCard : Claim7 := { stood := { row := matrixSolvesRow, standIns := [], harness := (true, "b05ca8306e77ef872243ced4d8f71a1122decb50e322eb32d1541f9f6a2b2dd5"), looks := true }, kinds := [], alts := [], laidByText := true, laidKinds := [.data, .data, .data, .sentinel, .sentinel], laidTests := true, laidLooks := .later }
def MatrixSolvesCardSaid : Prop := Claim7.holds Tryz.pinned (.plain (OpenSpec.ofChange matrixSolvesSpec)) matrixSolvesCard

/-- THE TIED CARD OF 'klippelaw06.MatrixDeterminants'. -/
def matrixDeterminantsCard : Claim7 := { stood := { row := matrixDeterminantsRow, standIns := [], harness := (true, "b05ca8306e77ef872243ced4d8f71a1122decb50e322eb32d1541f9f6a2b2dd5"), looks := true }, kinds := [], alts := [], laidByText := true, laidKinds := [.data, .data, .data, .sentinel, .sentinel], laidTests := true, laidLooks := .later }
def MatrixDeterminantsCardSaid : Prop := Claim7.holds Tryz.pinned (.plain (OpenSpec.ofChange matrixDeterminantsSpec)) matrixDeterminantsCard

/-- THE TIED CARD OF 'klippelaw06.MatrixProducts'. -/
def matrixProductsCard : Claim7 := { stood := { row := matrixProductsRow, standIns := [], harness := (true, "b05ca8306e77ef872243ced4d8f71a1122decb50e322eb32d1541f9f6a2b2dd5"), looks := true }, kinds := [], alts := [], laidByText := true, laidKinds := [.data, .data, .data, .sentinel, .sentinel], laidTests := true, laidLooks := .later }
def MatrixProductsCardSaid : Prop := Claim7.holds Tryz.pinned (.plain (OpenSpec.ofChange matrixProductsSpec)) matrixProductsCard

/-- THE TIED CARD OF 'klippelaw06.MatrixKernels'. -/
def matrixKernelsCard : Claim7 := { stood := { row := matrixKernelsRow, standIns := [], harness := (true, "b05ca8306e77ef872243ced4d8f71a1122decb50e322eb32d1541f9f6a2b2dd5"), looks := true }, kinds := [], alts := [], laidByText := true, laidKinds := [.data, .data, .data, .sentinel, .sentinel], laidTests := true, laidLooks := .later }
def MatrixKernelsCardSaid : Prop := Claim7.holds Tryz.pinned (.plain (OpenSpec.ofChange matrixKernelsSpec)) matrixKernelsCard

/-- THE TIED CARD OF 'klippelaw06.MatrixChecks'. -/
def matrixChecksCard : Claim7 := { stood := { row := matrixChecksRow, standIns := [], harness := (true, "b05ca8306e77ef872243ced4d8f71a1122decb50e322eb32d1541f9f6a2b2dd5"), looks := true }, kinds := [], alts := [], laidByText := true, laidKinds := [.data, .data, .data, .sentinel, .sentinel], laidTests := true, laidLooks := .later }
def MatrixChecksCardSaid : Prop := Claim7.holds Tryz.pinned (.plain (OpenSpec.ofChange matrixChecksSpec)) matrixChecksCard

/-- THE SECOND FORM's CARD OF 'klippelaw06.MatrixForms'. -/
def matrixFormsUptoCard : Claim7 := { stood := { row := matrixFormsUptoRow, standIns := [], harness := (true, "b05ca8306e77ef872243ced4d8f71a1122decb50e322eb32d1541f9f6a2b2dd5"), looks := true }, kinds := [], alts := [], laidByText := true, laidKinds := [.data, .data, .data, .sentinel, .sentinel], laidTests := true, laidLooks := .later }
def MatrixFormsUptoCardSaid : Prop := Claim7.holds Tryz.pinned (.plain (OpenSpec.upto matrixFormsSpec)) matrixFormsUptoCard

/-- THE SECOND FORM's CARD OF 'klippelaw06.MatrixReduces'. -/
def matrixReducesUptoCard : Claim7 := { stood := { row := matrixReducesUptoRow, standIns := [], harness := (true, "b05ca8306e77ef872243ced4d8f71a1122decb50e322eb32d1541f9f6a2b2dd5"), looks := true }, kinds := [], alts := [], laidByText := true, laidKinds := [.data, .data, .data, .sentinel, .sentinel], laidTests := true, laidLooks := .later }
def MatrixReducesUptoCardSaid : Prop := Claim7.holds Tryz.pinned (.plain (OpenSpec.upto matrixReducesSpec)) matrixReducesUptoCard

/-- THE SECOND FORM's CARD OF 'klippelaw06.MatrixApplies'. -/
def matrixAppliesUptoCard : Claim7 := { stood := { row := matrixAppliesUptoRow, standIns := [], harness := (true, "b05ca8306e77ef872243ced4d8f71a1122decb50e322eb32d1541f9f6a2b2dd5"), looks := true }, kinds := [], alts := [], laidByText := true, laidKinds := [.data, .data, .data, .sentinel, .sentinel], laidTests := true, laidLooks := .later }
def MatrixAppliesUptoCardSaid : Prop := Claim7.holds Tryz.pinned (.plain (OpenSpec.upto matrixAppliesSpec)) matrixAppliesUptoCard

/-- THE SECOND FORM's CARD OF 'klippelaw06.MatrixSolves'. -/
def matrixSolvesUptoCard : Claim7 := { stood := { row := matrixSolvesUptoRow, standIns := [], harness := (true, "b05ca8306e77ef872243ced4d8f71a1122decb50e322eb32d1541f9f6a2b2dd5"), looks := true }, kinds := [], alts := [], laidByText := true, laidKinds := [.data, .data, .data, .sentinel, .sentinel], laidTests := true, laidLooks := .later }
def MatrixSolvesUptoCardSaid : Prop := Claim7.holds Tryz.pinned (.plain (OpenSpec.upto matrixSolvesSpec)) matrixSolvesUptoCard

/-- THE SECOND FORM's CARD OF 'klippelaw06.MatrixDeterminants'. -/
def matrixDeterminantsUptoCard : Claim7 := { stood := { row := matrixDeterminantsUptoRow, standIns := [], harness := (true, "b05ca8306e77ef872243ced4d8f71a1122decb50e322eb32d1541f9f6a2b2dd5"), looks := true }, kinds := [], alts := [], laidByText := true, laidKinds := [.data, .data, .data, .sentinel, .sentinel], laidTests := true, laidLooks := .later }
def MatrixDeterminantsUptoCardSaid : Prop := Claim7.holds Tryz.pinned (.plain (OpenSpec.upto matrixDeterminantsSpec)) matrixDeterminantsUptoCard

/-- THE SECOND FORM's CARD OF 'klippelaw06.MatrixProducts'. -/
def matrixProductsUptoCard : Claim7 := { stood := { row := matrixProductsUptoRow, standIns := [], harness := (true, "b05ca8306e77ef872243ced4d8f71a1122decb50e322eb32d1541f9f6a2b2dd5"), looks := true }, kinds := [], alts := [], laidByText := true, laidKinds := [.data, .data, .data, .sentinel, .sentinel], laidTests := true, laidLooks := .later }
def MatrixProductsUptoCardSaid : Prop := Claim7.holds Tryz.pinned (.plain (OpenSpec.upto matrixProductsSpec)) matrixProductsUptoCard

/-- THE SECOND FORM's CARD OF 'klippelaw06.MatrixKernels'. -/
def matrixKernelsUptoCard : Claim7 := { stood := { row := matrixKernelsUptoRow, standIns := [], harness := (true, "b05ca8306e77ef872243ced4d8f71a1122decb50e322eb32d1541f9f6a2b2dd5"), looks := true }, kinds := [], alts := [], laidByText := true, laidKinds := [.data, .data, .data, .sentinel, .sentinel], laidTests := true, laidLooks := .later }
def MatrixKernelsUptoCardSaid : Prop := Claim7.holds Tryz.pinned (.plain (OpenSpec.upto matrixKernelsSpec)) matrixKernelsUptoCard

/-- THE SECOND FORM's CARD OF 'klippelaw06.MatrixChecks'. -/
def matrixChecksUptoCard : Claim7 := { stood := { row := matrixChecksUptoRow, standIns := [], harness := (true, "b05ca8306e77ef872243ced4d8f71a1122decb50e322eb32d1541f9f6a2b2dd5"), looks := true }, kinds := [], alts := [], laidByText := true, laidKinds := [.data, .data, .data, .sentinel, .sentinel], laidTests := true, laidLooks := .later }
def MatrixChecksUptoCardSaid : Prop := Claim7.holds Tryz.pinned (.plain (OpenSpec.upto matrixChecksSpec)) matrixChecksUptoCard
end Rows
end Go.Proofs.YtglbjagibldkgaaGreatDoor
