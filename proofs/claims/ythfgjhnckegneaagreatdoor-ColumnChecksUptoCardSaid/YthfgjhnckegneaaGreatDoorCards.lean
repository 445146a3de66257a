/-
  DERIVED. GIVEN WITH THE SEED: THE CARDS: each row of YthfgjhnckegneaaGreatDoorRows.lean that lists a variable, with what it lists TIED to the program's text (the seventh form; the later family's looks); each row that meets fmt, with fmt's text TOLD by the authors' own Lean function (tested against real Go, not proved from fmt's source: count such statements apart). THE CARD IS WHAT COUNTS. Prove the row's statement (the work); the ties are given (YthfgjhnckegneaaGreatDoorTie.lean); close each card by the builder's one call (the guide's Derived/Test/ToyasCard.lean, 'card_holds'). Laid BY PROGRAM, IN A SANDBOX (cutbox-door.mjs). By AI agents, Wed Nov 11 2026. No macro, syntax, notation, axiom, sorry.
-/
import Derived.Test.YthfgjhnckegneaaGreatDoorRows
import GoSem.ClaimSeven
namespace Go.Proofs.YthfgjhnckegneaaGreatDoor
namespace Rows

/-- THE TIED CARD OF 'klippelaw22.ColumnTexts'. -/
def columnTextsCard : Claim7 := { stood := { row := columnTextsRow, standIns := [], harness := (true, "bf403148497d6b6daa5159feba460534e83e4c69d9660de73e4b48c98bd314db"), looks := true }, kinds := [], alts := [], laidByText := true, laidKinds := [.data, .data, .data, .sentinel, .sentinel], laidTests := true, laidLooks := .later }
def ColumnTextsCardSaid : Prop := Claim7.holds Tryz.pinned (.plain (OpenSpec.ofChange columnTextsSpec)) columnTextsCard

/-- THE TIED CARD OF 'klippelaw22.ColumnMany'. -/
def columnManyCard : Claim7 := { stood := { row := columnManyRow, standIns := [], harness := (true, "bf403148497d6b6daa5159feba460534e83e4c69d9660de73e4b48c98bd314db"), looks := true }, kinds := [], alts := [], laidByText := true, laidKinds := [.data, .data, .data, .sentinel, .sentinel], laidTests := true, laidLooks := .later }
def ColumnManyCardSaid : Prop := Claim7.holds Tryz.pinned (.plain (OpenSpec.ofChange columnManySpec)) columnManyCard

/-- THE TIED CARD OF 'klippelaw22.ColumnBounds'. -/
def columnBoundsCard : Claim7 := { stood := { row := columnBoundsRow, standIns := [], harness := (true, "bf403148497d6b6daa5159feba460534e83e4c69d9660de73e4b48c98bd314db"), looks := true }, kinds := [], alts := [], laidByText := true, laidKinds := [.data, .data, .data, .sentinel, .sentinel], laidTests := true, laidLooks := .later }
def ColumnBoundsCardSaid : Prop := Claim7.holds Tryz.pinned (.plain (OpenSpec.ofChange columnBoundsSpec)) columnBoundsCard

/-- THE TIED CARD OF 'klippelaw22.ColumnRelations'. -/
def columnRelationsCard : Claim7 := { stood := { row := columnRelationsRow, standIns := [], harness := (true, "bf403148497d6b6daa5159feba460534e83e4c69d9660de73e4b48c98bd314db"), looks := true }, kinds := [], alts := [], laidByText := true, laidKinds := [.data, .data, .data, .sentinel, .sentinel], laidTests := true, laidLooks := .later }
def ColumnRelationsCardSaid : Prop := Claim7.holds Tryz.pinned (.plain (OpenSpec.ofChange columnRelationsSpec)) columnRelationsCard

/-- THE TIED CARD OF 'klippelaw22.ColumnAdds'. -/
def columnAddsCard : Claim7 := { stood := { row := columnAddsRow, standIns := [], harness := (true, "bf403148497d6b6daa5159feba460534e83e4c69d9660de73e4b48c98bd314db"), looks := true }, kinds := [], alts := [], laidByText := true, laidKinds := [.data, .data, .data, .sentinel, .sentinel], laidTests := true, laidLooks := .later }
def ColumnAddsCardSaid : Prop := Claim7.holds Tryz.pinned (.plain (OpenSpec.ofChange columnAddsSpec)) columnAddsCard

/-- THE TIED CARD OF 'klippelaw22.ColumnJoins'. -/
def columnJoinsCard : Claim7 := { stood := { row := columnJoinsRow, standIns := [], harness := (true, "bf403148497d6b6daa5159feba460534e83e4c69d9660de73e4b48c98bd314db"), looks := true }, kinds := [], alts := [], laidByText := true, laidKinds := [.data, .data, .data, .sentinel, .sentinel], laidTests := true, laidLooks := .later }
def ColumnJoinsCardSaid : Prop := Claim7.holds Tryz.pinned (.plain (OpenSpec.ofChange columnJoinsSpec)) columnJoinsCard

/-- THE TIED CARD OF 'klippelaw22.ColumnRestricts'. -/
def columnRestrictsCard : Claim7 := { stood := { row := columnRestrictsRow, standIns := [], harness := (true, "bf403148497d6b6daa5159feba460534e83e4c69d9660de73e4b48c98bd314db"), looks := true }, kinds := [], alts := [], laidByText := true, laidKinds := [.data, .data, .data, .sentinel, .sentinel], laidTests := true, laidLooks := .later }
def ColumnRestrictsCardSaid : Prop := Claim7.holds Tryz.pinned (.plain (OpenSpec.ofChange columnRestrictsSpec)) columnRestrictsCard

/-- THE TIED CARD OF 'klippelaw22.ColumnChecks'. -/
def columnChecksCard : Claim7 := { stood := { row := columnChecksRow, standIns := [], harness := (true, "bf403148497d6b6daa5159feba460534e83e4c69d9660de73e4b48c98bd314db"), looks := true }, kinds := [], alts := [], laidByText := true, laidKinds := [.data, .data, .data, .sentinel, .sentinel], laidTests := true, laidLooks := .later }
def ColumnChecksCardSaid : Prop := Claim7.holds Tryz.pinned (.plain (OpenSpec.ofChange columnChecksSpec)) columnChecksCard

/-- THE SECOND FORM's CARD OF 'klippelaw22.ColumnTexts'. -/
def columnTextsUptoCard : Claim7 := { stood := { row := columnTextsUptoRow, standIns := [], harness := (true, "bf403148497d6b6daa5159feba460534e83e4c69d9660de73e4b48c98bd314db"), looks := true }, kinds := [], alts := [], laidByText := true, laidKinds := [.data, .data, .data, .sentinel, .sentinel], laidTests := true, laidLooks := .later }
def ColumnTextsUptoCardSaid : Prop := Claim7.holds Tryz.pinned (.plain (OpenSpec.upto columnTextsSpec)) columnTextsUptoCard

/-- THE SECOND FORM's CARD OF 'klippelaw22.ColumnMany'. -/
def columnManyUptoCard : Claim7 := { stood := { row := columnManyUptoRow, standIns := [], harness := (true, "bf403148497d6b6daa5159feba460534e83e4c69d9660de73e4b48c98bd314db"), looks := true }, kinds := [], alts := [], laidByText := true, laidKinds := [.data, .data, .data, .sentinel, .sentinel], laidTests := true, laidLooks := .later }
def ColumnManyUptoCardSaid : Prop := Claim7.holds Tryz.pinned (.plain (OpenSpec.upto columnManySpec)) columnManyUptoCard

/-- THE SECOND FORM's CARD OF 'klippelaw22.ColumnBounds'. -/
def columnBoundsUptoCard : Claim7 := { stood := { row := columnBoundsUptoRow, standIns := [], harness := (true, "bf403148497d6b6daa5159feba460534e83e4c69d9660de73e4b48c98bd314db"), looks := true }, kinds := [], alts := [], laidByText := true, laidKinds := [.data, .data, .data, .sentinel, .sentinel], laidTests := true, laidLooks := .later }
def ColumnBoundsUptoCardSaid : Prop := Claim7.holds Tryz.pinned (.plain (OpenSpec.upto columnBoundsSpec)) columnBoundsUptoCard

/-- THE SECOND FORM's CARD OF 'klippelaw22.ColumnRelations'. -/
def columnRelationsUptoCard : Claim7 := { stood := { row := columnRelationsUptoRow, standIns := [], harness := (true, "bf403148497d6b6daa5159feba460534e83e4c69d9660de73e4b48c98bd314db"), looks := true }, kinds := [], alts := [], laidByText := true, laidKinds := [.data, .data, .data, .sentinel, .sentinel], laidTests := true, laidLooks := .later }
def ColumnRelationsUptoCardSaid : Prop := Claim7.holds Tryz.pinned (.plain (OpenSpec.upto columnRelationsSpec)) columnRelationsUptoCard

/-- THE SECOND FORM's CARD OF 'klippelaw22.ColumnAdds'. -/
def columnAddsUptoCard : Claim7 := { stood := { row := columnAddsUptoRow, standIns := [], harness := (true, "bf403148497d6b6daa5159feba460534e83e4c69d9660de73e4b48c98bd314db"), looks := true }, kinds := [], alts := [], laidByText := true, laidKinds := [.data, .data, .data, .sentinel, .sentinel], laidTests := true, laidLooks := .later }
def ColumnAddsUptoCardSaid : Prop := Claim7.holds Tryz.pinned (.plain (OpenSpec.upto columnAddsSpec)) columnAddsUptoCard

/-- THE SECOND FORM's CARD OF 'klippelaw22.ColumnJoins'. -/
def columnJoinsUptoCard : Claim7 := { stood := { row := columnJoinsUptoRow, standIns := [], harness := (true, "bf403148497d6b6daa5159feba460534e83e4c69d9660de73e4b48c98bd314db"), looks := true }, kinds := [], alts := [], laidByText := true, laidKinds := [.data, .data, .data, .sentinel, .sentinel], laidTests := true, laidLooks := .later }
def ColumnJoinsUptoCardSaid : Prop := Claim7.holds Tryz.pinned (.plain (OpenSpec.upto columnJoinsSpec)) columnJoinsUptoCard

/-- THE SECOND FORM's CARD OF 'klippelaw22.ColumnRestricts'. -/
def columnRestrictsUptoCard : Claim7 := { stood := { row := columnRestrictsUptoRow, standIns := [], harness := (true, "bf403148497d6b6daa5159feba460534e83e4c69d9660de73e4b48c98bd314db"), looks := true }, kinds := [], alts := [], laidByText := true, laidKinds := [.data, .data, .data, .sentinel, .sentinel], laidTests := true, laidLooks := .later }
def ColumnRestrictsUptoCardSaid : Prop := Claim7.holds Tryz.pinned (.plain (OpenSpec.upto columnRestrictsSpec)) columnRestrictsUptoCard

/-- THE SECOND FORM's CARD OF 'klippelaw22.ColumnChecks'. -/
def columnChecksUptoCard : Claim7 := { stood := { row := columnChecksUptoRow, standIns := [], harness := (true, "bf403148497d6b6daa5159feba460534e83e4c69d9660de73e4b48c98bd314db"), looks := true }, kinds := [], alts := [], laidByText := true, laidKinds := [.data, .data, .data, .sentinel, .sentinel], laidTests := true, laidLooks := .later }
def ColumnChecksUptoCardSaid : Prop := Claim7.holds Tryz.pinned (.plain (OpenSpec.upto columnChecksSpec)) columnChecksUptoCard
end Rows
end Go.Proofs.YthfgjhnckegneaaGreatDoor
