/-
 strings.Index of one byte. Own work.
-/
import Derived.Test.YtbcehhemdapjlaaGreatDoorEd
import Derived.Test.YtbcehhemdapjlaaGreatDoorSb
set_option linter.unusedVariables false
set_option linter.unusedSimpArgs false
namespace Go.Proofs
open Go Go.Pi Go.RowKit

theorem reps_2 {S : Nat → Nat → Prop} {w : World} {d e : D} {vs : List Value} (h : Reps S w [d, e] vs) : ∃ x y, vs = [x, y] ∧ Rep S w d x ∧ Rep S w e y := by
 obtain ⟨x, vs', rfl, h1, h2⟩ := h.uncons
 obtain ⟨y, rfl, h3⟩ := reps_1 h2
 exact ⟨x, y, rfl, h1, h3⟩

theorem Tryz.c169 (l : List UInt8) (c : UInt8) : Con Tryz.prog Tryz.L 169 [.str l, .str [c]] (.int .i64 (Lib.indexByte l c)) := by
 refine con_val (by kernel_rfl) rfl fun S w vs hL hv => ?_
 obtain ⟨x, y, rfl, h1, h2⟩ := reps_2 hv
 cases h1; cases h2
 refine (Tryz.stringslite_Index_one ⟨l.toArray⟩ c w).mono ?_
 rintro e w' ⟨rfl, rfl⟩
 exact ⟨_, rfl, Below.refl _ _, fun _ _ => by simpa using .int _ _⟩

end Go.Proofs
