/-
  DERIVED. GIVEN WITH THE SEED: THE CARDS: each row of YtkfmblmamoofjaaGreatDoorRows.lean that lists a variable, with what it lists TIED to the program's text (the seventh form; the later family's looks); each row that meets fmt, with fmt's text TOLD by the authors' own Lean function (tested against real Go, not proved from fmt's source: count such statements apart). THE CARD IS WHAT COUNTS. Prove the row's statement (the work); the ties are given (YtkfmblmamoofjaaGreatDoorTie.lean); close each card by the builder's one call (the guide's Derived/Test/ToyasCard.lean, 'card_holds'). Laid BY PROGRAM, IN A SANDBOX (cutbox-door.mjs). By AI agents, Wed Nov 11 2026. No macro, syntax, notation, axiom, sorry.
-/
import Derived.Test.YtkfmblmamoofjaaGreatDoorRows
import GoSem.ClaimSeven
namespace Go.Proofs.YtkfmblmamoofjaaGreatDoor
namespace Rows

/-- THE TIED CARD OF 'klippelaw11.PolylineSplits'. -/
def polylineSplitsCard : Claim7 := { stood := { row := polylineSplitsRow, standIns := [], harness := (true, "7e727581e10612653ccea83a16b89681ccecaa66549ff26e093e98b5302d65db"), looks := true }, kinds := [], alts := [], laidByText := true, laidKinds := [.data, .data, .data, .sentinel, .sentinel], laidTests := true, laidLooks := .later }
def PolylineSplitsCardSaid : Prop := Claim7.holds Tryz.pinned (.plain (OpenSpec.ofChange polylineSplitsSpec)) polylineSplitsCard

/-- THE SECOND FORM's CARD OF 'klippelaw11.PolylineSplits'. -/
def polylineSplitsUptoCard : Claim7 := { stood := { row := polylineSplitsUptoRow, standIns := [], harness := (true, "7e727581e10612653ccea83a16b89681ccecaa66549ff26e093e98b5302d65db"), looks := true }, kinds := [], alts := [], laidByText := true, laidKinds := [.data, .data, .data, .sentinel, .sentinel], laidTests := true, laidLooks := .later }
def PolylineSplitsUptoCardSaid : Prop := Claim7.holds Tryz.pinned (.plain (OpenSpec.upto polylineSplitsSpec)) polylineSplitsUptoCard
end Rows
end Go.Proofs.YtkfmblmamoofjaaGreatDoor
