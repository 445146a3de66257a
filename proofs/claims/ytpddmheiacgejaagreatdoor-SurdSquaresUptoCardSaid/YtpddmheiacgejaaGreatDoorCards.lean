/-
  DERIVED. GIVEN WITH THE SEED: THE CARDS: each row of YtpddmheiacgejaaGreatDoorRows.lean that lists a variable, with what it lists TIED to the program's text (the seventh form; the later family's looks); each row that meets fmt, with fmt's text TOLD by the authors' own Lean function (tested against real Go, not proved from fmt's source: count such statements apart). THE CARD IS WHAT COUNTS. Prove the row's statement (the work); the ties are given (YtpddmheiacgejaaGreatDoorTie.lean); close each card by the builder's one call (the guide's Derived/Test/ToyasCard.lean, 'card_holds'). Laid BY PROGRAM, IN A SANDBOX (cutbox-door.mjs). By AI agents, Wed Nov 11 2026. No macro, syntax, notation, axiom, sorry.
-/
import Derived.Test.YtpddmheiacgejaaGreatDoorRows
import GoSem.ClaimSeven
namespace Go.Proofs.YtpddmheiacgejaaGreatDoor
namespace Rows

/-- THE TIED CARD OF 'klippelaw03.SurdRoots'. -/
def surdRootsCard : Claim7 := { stood := { row := surdRootsRow, standIns := [], harness := (true, "14d1860210760eafe5221830276bb1aa790c4a53731a510ceba1a46cc7384648"), looks := true }, kinds := [], alts := [], laidByText := true, laidKinds := [.data, .data, .data, .sentinel, .sentinel], laidTests := true, laidLooks := .later }
def SurdRootsCardSaid : Prop := Claim7.holds Tryz.pinned (.plain (OpenSpec.ofChange surdRootsSpec)) surdRootsCard

/-- THE TIED CARD OF 'klippelaw03.SurdRationals'. -/
def surdRationalsCard : Claim7 := { stood := { row := surdRationalsRow, standIns := [], harness := (true, "14d1860210760eafe5221830276bb1aa790c4a53731a510ceba1a46cc7384648"), looks := true }, kinds := [], alts := [], laidByText := true, laidKinds := [.data, .data, .data, .sentinel, .sentinel], laidTests := true, laidLooks := .later }
def SurdRationalsCardSaid : Prop := Claim7.holds Tryz.pinned (.plain (OpenSpec.ofChange surdRationalsSpec)) surdRationalsCard

/-- THE TIED CARD OF 'klippelaw03.SurdBounds'. -/
def surdBoundsCard : Claim7 := { stood := { row := surdBoundsRow, standIns := [], harness := (true, "14d1860210760eafe5221830276bb1aa790c4a53731a510ceba1a46cc7384648"), looks := true }, kinds := [], alts := [], laidByText := true, laidKinds := [.data, .data, .data, .sentinel, .sentinel], laidTests := true, laidLooks := .later }
def SurdBoundsCardSaid : Prop := Claim7.holds Tryz.pinned (.plain (OpenSpec.ofChange surdBoundsSpec)) surdBoundsCard

/-- THE TIED CARD OF 'klippelaw03.SurdTexts'. -/
def surdTextsCard : Claim7 := { stood := { row := surdTextsRow, standIns := [], harness := (true, "14d1860210760eafe5221830276bb1aa790c4a53731a510ceba1a46cc7384648"), looks := true }, kinds := [], alts := [], laidByText := true, laidKinds := [.data, .data, .data, .sentinel, .sentinel], laidTests := true, laidLooks := .later }
def SurdTextsCardSaid : Prop := Claim7.holds Tryz.pinned (.plain (OpenSpec.ofChange surdTextsSpec)) surdTextsCard

/-- THE TIED CARD OF 'klippelaw03.SurdScales'. -/
def surdScalesCard : Claim7 := { stood := { row := surdScalesRow, standIns := [], harness := (true, "14d1860210760eafe5221830276bb1aa790c4a53731a510ceba1a46cc7384648"), looks := true }, kinds := [], alts := [], laidByText := true, laidKinds := [.data, .data, .data, .sentinel, .sentinel], laidTests := true, laidLooks := .later }
def SurdScalesCardSaid : Prop := Claim7.holds Tryz.pinned (.plain (OpenSpec.ofChange surdScalesSpec)) surdScalesCard

/-- THE TIED CARD OF 'klippelaw03.SurdNear'. -/
def surdNearCard : Claim7 := { stood := { row := surdNearRow, standIns := [], harness := (true, "14d1860210760eafe5221830276bb1aa790c4a53731a510ceba1a46cc7384648"), looks := true }, kinds := [], alts := [], laidByText := true, laidKinds := [.data, .data, .data, .sentinel, .sentinel], laidTests := true, laidLooks := .later }
def SurdNearCardSaid : Prop := Claim7.holds Tryz.pinned (.plain (OpenSpec.ofChange surdNearSpec)) surdNearCard

/-- THE TIED CARD OF 'klippelaw03.SurdSigns'. -/
def surdSignsCard : Claim7 := { stood := { row := surdSignsRow, standIns := [], harness := (true, "14d1860210760eafe5221830276bb1aa790c4a53731a510ceba1a46cc7384648"), looks := true }, kinds := [], alts := [], laidByText := true, laidKinds := [.data, .data, .data, .sentinel, .sentinel], laidTests := true, laidLooks := .later }
def SurdSignsCardSaid : Prop := Claim7.holds Tryz.pinned (.plain (OpenSpec.ofChange surdSignsSpec)) surdSignsCard

/-- THE TIED CARD OF 'klippelaw03.SurdAdds'. -/
def surdAddsCard : Claim7 := { stood := { row := surdAddsRow, standIns := [], harness := (true, "14d1860210760eafe5221830276bb1aa790c4a53731a510ceba1a46cc7384648"), looks := true }, kinds := [], alts := [], laidByText := true, laidKinds := [.data, .data, .data, .sentinel, .sentinel], laidTests := true, laidLooks := .later }
def SurdAddsCardSaid : Prop := Claim7.holds Tryz.pinned (.plain (OpenSpec.ofChange surdAddsSpec)) surdAddsCard

/-- THE TIED CARD OF 'klippelaw03.SurdLaws'. -/
def surdLawsCard : Claim7 := { stood := { row := surdLawsRow, standIns := [], harness := (true, "14d1860210760eafe5221830276bb1aa790c4a53731a510ceba1a46cc7384648"), looks := true }, kinds := [], alts := [], laidByText := true, laidKinds := [.data, .data, .data, .sentinel, .sentinel], laidTests := true, laidLooks := .later }
def SurdLawsCardSaid : Prop := Claim7.holds Tryz.pinned (.plain (OpenSpec.ofChange surdLawsSpec)) surdLawsCard

/-- THE TIED CARD OF 'klippelaw03.SurdSquares'. -/
def surdSquaresCard : Claim7 := { stood := { row := surdSquaresRow, standIns := [], harness := (true, "14d1860210760eafe5221830276bb1aa790c4a53731a510ceba1a46cc7384648"), looks := true }, kinds := [], alts := [], laidByText := true, laidKinds := [.data, .data, .data, .sentinel, .sentinel], laidTests := true, laidLooks := .later }
def SurdSquaresCardSaid : Prop := Claim7.holds Tryz.pinned (.plain (OpenSpec.ofChange surdSquaresSpec)) surdSquaresCard

/-- THE SECOND FORM's CARD OF 'klippelaw03.SurdRoots'. -/
def surdRootsUptoCard : Claim7 := { stood := { row := surdRootsUptoRow, standIns := [], harness := (true, "14d1860210760eafe5221830276bb1aa790c4a53731a510ceba1a46cc7384648"), looks := true }, kinds := [], alts := [], laidByText := true, laidKinds := [.data, .data, .data, .sentinel, .sentinel], laidTests := true, laidLooks := .later }
def SurdRootsUptoCardSaid : Prop := Claim7.holds Tryz.pinned (.plain (OpenSpec.upto surdRootsSpec)) surdRootsUptoCard

/-- THE SECOND FORM's CARD OF 'klippelaw03.SurdRationals'. -/
def surdRationalsUptoCard : Claim7 := { stood := { row := surdRationalsUptoRow, standIns := [], harness := (true, "14d1860210760eafe5221830276bb1aa790c4a53731a510ceba1a46cc7384648"), looks := true }, kinds := [], alts := [], laidByText := true, laidKinds := [.data, .data, .data, .sentinel, .sentinel], laidTests := true, laidLooks := .later }
def SurdRationalsUptoCardSaid : Prop := Claim7.holds Tryz.pinned (.plain (OpenSpec.upto surdRationalsSpec)) surdRationalsUptoCard

/-- THE SECOND FORM's CARD OF 'klippelaw03.SurdBounds'. -/
def surdBoundsUptoCard : Claim7 := { stood := { row := surdBoundsUptoRow, standIns := [], harness := (true, "14d1860210760eafe5221830276bb1aa790c4a53731a510ceba1a46cc7384648"), looks := true }, kinds := [], alts := [], laidByText := true, laidKinds := [.data, .data, .data, .sentinel, .sentinel], laidTests := true, laidLooks := .later }
def SurdBoundsUptoCardSaid : Prop := Claim7.holds Tryz.pinned (.plain (OpenSpec.upto surdBoundsSpec)) surdBoundsUptoCard

/-- THE SECOND FORM's CARD OF 'klippelaw03.SurdTexts'. -/
def surdTextsUptoCard : Claim7 := { stood := { row := surdTextsUptoRow, standIns := [], harness := (true, "14d1860210760eafe5221830276bb1aa790c4a53731a510ceba1a46cc7384648"), looks := true }, kinds := [], alts := [], laidByText := true, laidKinds := [.data, .data, .data, .sentinel, .sentinel], laidTests := true, laidLooks := .later }
def SurdTextsUptoCardSaid : Prop := Claim7.holds Tryz.pinned (.plain (OpenSpec.upto surdTextsSpec)) surdTextsUptoCard

/-- THE SECOND FORM's CARD OF 'klippelaw03.SurdScales'. -/
def surdScalesUptoCard : Claim7 := { stood := { row := surdScalesUptoRow, standIns := [], harness := (true, "14d1860210760eafe5221830276bb1aa790c4a53731a510ceba1a46cc7384648"), looks := true }, kinds := [], alts := [], laidByText := true, laidKinds := [.data, .data, .data, .sentinel, .sentinel], laidTests := true, laidLooks := .later }
def SurdScalesUptoCardSaid : Prop := Claim7.holds Tryz.pinned (.plain (OpenSpec.upto surdScalesSpec)) surdScalesUptoCard

/-- THE SECOND FORM's CARD OF 'klippelaw03.SurdNear'. -/
def surdNearUptoCard : Claim7 := { stood := { row := surdNearUptoRow, standIns := [], harness := (true, "14d1860210760eafe5221830276bb1aa790c4a53731a510ceba1a46cc7384648"), looks := true }, kinds := [], alts := [], laidByText := true, laidKinds := [.data, .data, .data, .sentinel, .sentinel], laidTests := true, laidLooks := .later }
def SurdNearUptoCardSaid : Prop := Claim7.holds Tryz.pinned (.plain (OpenSpec.upto surdNearSpec)) surdNearUptoCard

/-- THE SECOND FORM's CARD OF 'klippelaw03.SurdSigns'. -/
def surdSignsUptoCard : Claim7 := { stood := { row := surdSignsUptoRow, standIns := [], harness := (true, "14d1860210760eafe5221830276bb1aa790c4a53731a510ceba1a46cc7384648"), looks := true }, kinds := [], alts := [], laidByText := true, laidKinds := [.data, .data, .data, .sentinel, .sentinel], laidTests := true, laidLooks := .later }
def SurdSignsUptoCardSaid : Prop := Claim7.holds Tryz.pinned (.plain (OpenSpec.upto surdSignsSpec)) surdSignsUptoCard

/-- THE SECOND FORM's CARD OF 'klippelaw03.SurdAdds'. -/
def surdAddsUptoCard : Claim7 := { stood := { row := surdAddsUptoRow, standIns := [], harness := (true, "14d1860210760eafe5221830276bb1aa790c4a53731a510ceba1a46cc7384648"), looks := true }, kinds := [], alts := [], laidByText := true, laidKinds := [.data, .data, .data, .sentinel, .sentinel], laidTests := true, laidLooks := .later }
def SurdAddsUptoCardSaid : Prop := Claim7.holds Tryz.pinned (.plain (OpenSpec.upto surdAddsSpec)) surdAddsUptoCard

/-- THE SECOND FORM's CARD OF 'klippelaw03.SurdLaws'. -/
def surdLawsUptoCard : Claim7 := { stood := { row := surdLawsUptoRow, standIns := [], harness := (true, "14d1860210760eafe5221830276bb1aa790c4a53731a510ceba1a46cc7384648"), looks := true }, kinds := [], alts := [], laidByText := true, laidKinds := [.data, .data, .data, .sentinel, .sentinel], laidTests := true, laidLooks := .later }
def SurdLawsUptoCardSaid : Prop := Claim7.holds Tryz.pinned (.plain (OpenSpec.upto surdLawsSpec)) surdLawsUptoCard

/-- THE SECOND FORM's CARD OF 'klippelaw03.SurdSquares'. -/
def surdSquaresUptoCard : Claim7 := { stood := { row := surdSquaresUptoRow, standIns := [], harness := (true, "14d1860210760eafe5221830276bb1aa790c4a53731a510ceba1a46cc7384648"), looks := true }, kinds := [], alts := [], laidByText := true, laidKinds := [.data, .data, .data, .sentinel, .sentinel], laidTests := true, laidLooks := .later }
def SurdSquaresUptoCardSaid : Prop := Claim7.holds Tryz.pinned (.plain (OpenSpec.upto surdSquaresSpec)) surdSquaresUptoCard
end Rows
end Go.Proofs.YtpddmheiacgejaaGreatDoor
