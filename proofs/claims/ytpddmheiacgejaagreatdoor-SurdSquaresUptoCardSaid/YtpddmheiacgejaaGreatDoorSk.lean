/-
  SURD: lists of parts as arguments. Own work.
-/
import Derived.Test.YtpddmheiacgejaaGreatDoorSj
import Derived.Test.YtpddmheiacgejaaGreatDoorSg
namespace Go.Proofs.YtpddmheiacgejaaGreatDoor
open Go Go.Pi Go.ChangeShapes Go.WideShapes Go.ChangeAt Go.RowKit

end Go.Proofs.YtpddmheiacgejaaGreatDoor
