/-
  DERIVED. GIVEN WITH THE SEED: THE CARDS: each row of YtijkmdpdedagdaaGreatDoorRows.lean that lists a variable, with what it lists TIED to the program's text (the seventh form; the later family's looks); each row that meets fmt, with fmt's text TOLD by the authors' own Lean function (tested against real Go, not proved from fmt's source: count such statements apart). THE CARD IS WHAT COUNTS. Prove the row's statement (the work); the ties are given (YtijkmdpdedagdaaGreatDoorTie.lean); close each card by the builder's one call (the guide's Derived/Test/ToyasCard.lean, 'card_holds'). Laid BY PROGRAM, IN A SANDBOX (cutbox-door.mjs). By AI agents, Wed Nov 11 2026. No macro, syntax, notation, axiom, sorry.
-/
import Derived.Test.YtijkmdpdedagdaaGreatDoorRows
import GoSem.ClaimSeven
namespace Go.Proofs.YtijkmdpdedagdaaGreatDoor
namespace Rows

/-- THE TIED CARD OF 'klippetop.TopCertificatesAreAccepted'. -/
def topCertificatesAreAcceptedCard : Claim7 := { stood := { row := topCertificatesAreAcceptedRow, standIns := [], harness := (true, "966a9901c98d6f5f601dbe933a7a8d86ddddfd705505a12bf073a9773b880589"), looks := true }, kinds := [], alts := [], laidByText := true, laidKinds := [.data, .pinned], laidTests := true, laidLooks := .later }
def TopCertificatesAreAcceptedCardSaid : Prop := Claim7.holds Tryz.pinned (.plain (OpenSpec.ofChange topCertificatesAreAcceptedSpec)) topCertificatesAreAcceptedCard

/-- THE SECOND FORM's CARD OF 'klippetop.TopCertificatesAreAccepted'. -/
def topCertificatesAreAcceptedUptoCard : Claim7 := { stood := { row := topCertificatesAreAcceptedUptoRow, standIns := [], harness := (true, "966a9901c98d6f5f601dbe933a7a8d86ddddfd705505a12bf073a9773b880589"), looks := true }, kinds := [], alts := [], laidByText := true, laidKinds := [.data, .pinned], laidTests := true, laidLooks := .later }
def TopCertificatesAreAcceptedUptoCardSaid : Prop := Claim7.holds Tryz.pinned (.plain (OpenSpec.upto topCertificatesAreAcceptedSpec)) topCertificatesAreAcceptedUptoCard
end Rows
end Go.Proofs.YtijkmdpdedagdaaGreatDoor
