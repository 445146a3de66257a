/-
  STEREONET: nets, vectors, lists of vectors as arguments. Own work.
-/
import Derived.Test.YtidmnjnhccoblaaGreatDoorSi
import Derived.Test.YtidmnjnhccoblaaGreatDoorSf
set_option linter.unusedVariables false
set_option linter.unusedSimpArgs false
namespace Go.Proofs.YtidmnjnhccoblaaGreatDoor
open Go Go.Pi Go.ChangeShapes Go.WideShapes Go.ChangeAt Go.RowKit Go.Ne

theorem u8_wf {n : Int} (h : (Lit.int .u8 n).wf = true) : 0 ≤ n ∧ n ≤ 255 := by
  simp only [Lit.wf, Bool.and_eq_true, decide_eq_true_eq] at h
  rw [show IntKind.u8.min = 0 by decide, show IntKind.u8.max = 255 by decide] at h
  exact h
end Go.Proofs.YtidmnjnhccoblaaGreatDoor
