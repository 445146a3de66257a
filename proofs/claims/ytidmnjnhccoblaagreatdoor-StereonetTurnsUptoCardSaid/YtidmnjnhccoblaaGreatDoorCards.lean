/-
  DERIVED. GIVEN WITH THE SEED: THE CARDS: each row of YtidmnjnhccoblaaGreatDoorRows.lean that lists a variable, with what it lists TIED to the program's text (the seventh form; the later family's looks); each row that meets fmt, with fmt's text TOLD by the authors' own Lean function (tested against real Go, not proved from fmt's source: count such statements apart). THE CARD IS WHAT COUNTS. Prove the row's statement (the work); the ties are given (YtidmnjnhccoblaaGreatDoorTie.lean); close each card by the builder's one call (the guide's Derived/Test/ToyasCard.lean, 'card_holds'). Laid BY PROGRAM, IN A SANDBOX (cutbox-door.mjs). By AI agents, Wed Nov 11 2026. No macro, syntax, notation, axiom, sorry.
-/
import Derived.Test.YtidmnjnhccoblaaGreatDoorRows
import GoSem.ClaimSeven
namespace Go.Proofs.YtidmnjnhccoblaaGreatDoor
namespace Rows

/-- THE TIED CARD OF 'klippelaw18.StereonetPixels'. -/
def stereonetPixelsCard : Claim7 := { stood := { row := stereonetPixelsRow, standIns := [], harness := (true, "fa50a1f8c4fd2456dab9d1cb6215699dbd9ff1ce78b4f1ca2bcb34356c146c3d"), looks := true }, kinds := [], alts := [], laidByText := true, laidKinds := [.data, .data, .data, .sentinel, .sentinel], laidTests := true, laidLooks := .later }
def StereonetPixelsCardSaid : Prop := Claim7.holds Tryz.pinned (.plain (OpenSpec.ofChange stereonetPixelsSpec)) stereonetPixelsCard

/-- THE TIED CARD OF 'klippelaw18.StereonetLowers'. -/
def stereonetLowersCard : Claim7 := { stood := { row := stereonetLowersRow, standIns := [], harness := (true, "fa50a1f8c4fd2456dab9d1cb6215699dbd9ff1ce78b4f1ca2bcb34356c146c3d"), looks := true }, kinds := [], alts := [], laidByText := true, laidKinds := [.data, .data, .data, .sentinel, .sentinel], laidTests := true, laidLooks := .later }
def StereonetLowersCardSaid : Prop := Claim7.holds Tryz.pinned (.plain (OpenSpec.ofChange stereonetLowersSpec)) stereonetLowersCard

/-- THE TIED CARD OF 'klippelaw18.StereonetCones'. -/
def stereonetConesCard : Claim7 := { stood := { row := stereonetConesRow, standIns := [], harness := (true, "fa50a1f8c4fd2456dab9d1cb6215699dbd9ff1ce78b4f1ca2bcb34356c146c3d"), looks := true }, kinds := [], alts := [], laidByText := true, laidKinds := [.data, .data, .data, .sentinel, .sentinel], laidTests := true, laidLooks := .later }
def StereonetConesCardSaid : Prop := Claim7.holds Tryz.pinned (.plain (OpenSpec.ofChange stereonetConesSpec)) stereonetConesCard

/-- THE TIED CARD OF 'klippelaw18.StereonetTurns'. -/
def stereonetTurnsCard : Claim7 := { stood := { row := stereonetTurnsRow, standIns := [], harness := (true, "fa50a1f8c4fd2456dab9d1cb6215699dbd9ff1ce78b4f1ca2bcb34356c146c3d"), looks := true }, kinds := [], alts := [], laidByText := true, laidKinds := [.data, .data, .data, .sentinel, .sentinel], laidTests := true, laidLooks := .later }
def StereonetTurnsCardSaid : Prop := Claim7.holds Tryz.pinned (.plain (OpenSpec.ofChange stereonetTurnsSpec)) stereonetTurnsCard

/-- THE TIED CARD OF 'klippelaw18.StereonetPictures'. -/
def stereonetPicturesCard : Claim7 := { stood := { row := stereonetPicturesRow, standIns := [], harness := (true, "fa50a1f8c4fd2456dab9d1cb6215699dbd9ff1ce78b4f1ca2bcb34356c146c3d"), looks := true }, kinds := [], alts := [], laidByText := true, laidKinds := [.data, .data, .data, .sentinel, .sentinel], laidTests := true, laidLooks := .later }
def StereonetPicturesCardSaid : Prop := Claim7.holds Tryz.pinned (.plain (OpenSpec.ofChange stereonetPicturesSpec)) stereonetPicturesCard

/-- THE TIED CARD OF 'klippelaw18.StereonetCircles'. -/
def stereonetCirclesCard : Claim7 := { stood := { row := stereonetCirclesRow, standIns := [], harness := (true, "fa50a1f8c4fd2456dab9d1cb6215699dbd9ff1ce78b4f1ca2bcb34356c146c3d"), looks := true }, kinds := [], alts := [], laidByText := true, laidKinds := [.data, .data, .data, .sentinel, .sentinel], laidTests := true, laidLooks := .later }
def StereonetCirclesCardSaid : Prop := Claim7.holds Tryz.pinned (.plain (OpenSpec.ofChange stereonetCirclesSpec)) stereonetCirclesCard

/-- THE TIED CARD OF 'klippelaw18.StereonetMany'. -/
def stereonetManyCard : Claim7 := { stood := { row := stereonetManyRow, standIns := [], harness := (true, "fa50a1f8c4fd2456dab9d1cb6215699dbd9ff1ce78b4f1ca2bcb34356c146c3d"), looks := true }, kinds := [], alts := [], laidByText := true, laidKinds := [.data, .data, .data, .sentinel, .sentinel], laidTests := true, laidLooks := .later }
def StereonetManyCardSaid : Prop := Claim7.holds Tryz.pinned (.plain (OpenSpec.ofChange stereonetManySpec)) stereonetManyCard

/-- THE SECOND FORM's CARD OF 'klippelaw18.StereonetPixels'. -/
def stereonetPixelsUptoCard : Claim7 := { stood := { row := stereonetPixelsUptoRow, standIns := [], harness := (true, "fa50a1f8c4fd2456dab9d1cb6215699dbd9ff1ce78b4f1ca2bcb34356c146c3d"), looks := true }, kinds := [], alts := [], laidByText := true, laidKinds := [.data, .data, .data, .sentinel, .sentinel], laidTests := true, laidLooks := .later }
def StereonetPixelsUptoCardSaid : Prop := Claim7.holds Tryz.pinned (.plain (OpenSpec.upto stereonetPixelsSpec)) stereonetPixelsUptoCard

/-- THE SECOND FORM's CARD OF 'klippelaw18.StereonetLowers'. -/
def stereonetLowersUptoCard : Claim7 := { stood := { row := stereonetLowersUptoRow, standIns := [], harness := (true, "fa50a1f8c4fd2456dab9d1cb6215699dbd9ff1ce78b4f1ca2bcb34356c146c3d"), looks := true }, kinds := [], alts := [], laidByText := true, laidKinds := [.data, .data, .data, .sentinel, .sentinel], laidTests := true, laidLooks := .later }
def StereonetLowersUptoCardSaid : Prop := Claim7.holds Tryz.pinned (.plain (OpenSpec.upto stereonetLowersSpec)) stereonetLowersUptoCard

/-- THE SECOND FORM's CARD OF 'klippelaw18.StereonetCones'. -/
def stereonetConesUptoCard : Claim7 := { stood := { row := stereonetConesUptoRow, standIns := [], harness := (true, "fa50a1f8c4fd2456dab9d1cb6215699dbd9ff1ce78b4f1ca2bcb34356c146c3d"), looks := true }, kinds := [], alts := [], laidByText := true, laidKinds := [.data, .data, .data, .sentinel, .sentinel], laidTests := true, laidLooks := .later }
def StereonetConesUptoCardSaid : Prop := Claim7.holds Tryz.pinned (.plain (OpenSpec.upto stereonetConesSpec)) stereonetConesUptoCard

/-- THE SECOND FORM's CARD OF 'klippelaw18.StereonetTurns'. -/
def stereonetTurnsUptoCard : Claim7 := { stood := { row := stereonetTurnsUptoRow, standIns := [], harness := (true, "fa50a1f8c4fd2456dab9d1cb6215699dbd9ff1ce78b4f1ca2bcb34356c146c3d"), looks := true }, kinds := [], alts := [], laidByText := true, laidKinds := [.data, .data, .data, .sentinel, .sentinel], laidTests := true, laidLooks := .later }
def StereonetTurnsUptoCardSaid : Prop := Claim7.holds Tryz.pinned (.plain (OpenSpec.upto stereonetTurnsSpec)) stereonetTurnsUptoCard

/-- THE SECOND FORM's CARD OF 'klippelaw18.StereonetPictures'. -/
def stereonetPicturesUptoCard : Claim7 := { stood := { row := stereonetPicturesUptoRow, standIns := [], harness := (true, "fa50a1f8c4fd2456dab9d1cb6215699dbd9ff1ce78b4f1ca2bcb34356c146c3d"), looks := true }, kinds := [], alts := [], laidByText := true, laidKinds := [.data, .data, .data, .sentinel, .sentinel], laidTests := true, laidLooks := .later }
def StereonetPicturesUptoCardSaid : Prop := Claim7.holds Tryz.pinned (.plain (OpenSpec.upto stereonetPicturesSpec)) stereonetPicturesUptoCard

/-- THE SECOND FORM's CARD OF 'klippelaw18.StereonetCircles'. -/
def stereonetCirclesUptoCard : Claim7 := { stood := { row := stereonetCirclesUptoRow, standIns := [], harness := (true, "fa50a1f8c4fd2456dab9d1cb6215699dbd9ff1ce78b4f1ca2bcb34356c146c3d"), looks := true }, kinds := [], alts := [], laidByText := true, laidKinds := [.data, .data, .data, .sentinel, .sentinel], laidTests := true, laidLooks := .later }
def StereonetCirclesUptoCardSaid : Prop := Claim7.holds Tryz.pinned (.plain (OpenSpec.upto stereonetCirclesSpec)) stereonetCirclesUptoCard

/-- THE SECOND FORM's CARD OF 'klippelaw18.StereonetMany'. -/
def stereonetManyUptoCard : Claim7 := { stood := { row := stereonetManyUptoRow, standIns := [], harness := (true, "fa50a1f8c4fd2456dab9d1cb6215699dbd9ff1ce78b4f1ca2bcb34356c146c3d"), looks := true }, kinds := [], alts := [], laidByText := true, laidKinds := [.data, .data, .data, .sentinel, .sentinel], laidTests := true, laidLooks := .later }
def StereonetManyUptoCardSaid : Prop := Claim7.holds Tryz.pinned (.plain (OpenSpec.upto stereonetManySpec)) stereonetManyUptoCard
end Rows
end Go.Proofs.YtidmnjnhccoblaaGreatDoor
