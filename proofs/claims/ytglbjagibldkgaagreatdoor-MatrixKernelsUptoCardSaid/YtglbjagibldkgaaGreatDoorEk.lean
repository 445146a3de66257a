/-
  MATRIX: matrices of texts; MatrixChecks. Own work.
-/
import Derived.Test.YtglbjagibldkgaaGreatDoorPj
import Derived.Test.YtglbjagibldkgaaGreatDoorSh
set_option linter.unusedVariables false
set_option linter.unusedSimpArgs false
namespace Go.Proofs
open Go Go.Pi Go.RowKit Go.Shelf Go.Ar Go.Mx

abbrev TT := List (List (List UInt8))
def mxs (l : TT) : List D := l.map fun r => .sl r.length (txs r)
abbrev mtD (l : TT) : D := .sl l.length (mxs l)
def rwT (l : TT) (k : Nat) : List (List UInt8) := l.getD k []
def okN (l : TT) : Prop := ∀ r ∈ l, ∀ s ∈ r, okR s
def okW (l : TT) : Prop := ∀ r ∈ l, r.length ≤ 12
def okQ (l : TT) : Prop := ∀ r ∈ l, r.length = (rwT l 0).length
/-- the first error of a matrix -/
noncomputable def chkM (l : TT) : Int := @ite _ (okN l) (Classical.propDecidable _) (if 12 < l.length then 4 else @ite _ (okW l) (Classical.propDecidable _) (@ite _ (okQ l) (Classical.propDecidable _) 0 5) 4) 2
/-- few rows, short texts -/
def SzT (l : TT) : Prop := l.length ≤ 1000 ∧ ∀ r ∈ l, r.length ≤ 1000 ∧ ∀ s ∈ r, s.length ≤ 1000
/-- few, as the law says it -/
def fewT (l : TT) : Prop := (l.length ≤ 4 ∨ (12 ≤ l.length ∧ l.length ≤ 14)) ∧ ∀ r ∈ l, (r.length ≤ 4 ∨ (l.length ≤ 1 ∧ r.length ≤ 14)) ∧ ∀ s ∈ r, s.length ≤ 40
end Go.Proofs
