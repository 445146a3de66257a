import Derived.Test.YtkfmblmamoofjaaGreatDoorPj
import Derived.Test.YtkfmblmamoofjaaGreatDoorEb
import Derived.Test.YtkfmblmamoofjaaGreatDoorEc
import Derived.Test.YtkfmblmamoofjaaGreatDoorRb
set_option linter.unusedVariables false
set_option linter.unusedSimpArgs false
namespace Go.Proofs
open Go Go.Pi Go.RowKit

theorem Tryz.c137 (n : Int) (h : inR .u64 n) : Con Tryz.prog Tryz.L 137 [.int .u64 n, .int .i64 10] (.str (Lib.decDigits n.toNat)) := by
 rw [inR_u64] at h
 obtain ⟨u, rfl⟩ : ∃ u : Nat, n = u := ⟨n.toNat, by omega⟩
 refine con_val (by kernel_rfl) rfl fun S w vs hL hv => ?_
 obtain ⟨x, vs', rfl, h1, h2⟩ := hv.uncons
 obtain ⟨y, vs', rfl, h3, h4⟩ := h2.uncons
 have : vs' = [] := by cases vs' with | nil => rfl | cons _ _ => have := h4.1; simp at this
 subst this
 cases h1; cases h3
 refine (Tryz.FormatUint_10 u (by omega) w hL.1).mono ?_
 rintro e w' ⟨rfl, k, os, rfl⟩
 refine ⟨_, rfl, Lib.below_grow _ w (Nat.le_refl _) k os, fun S' w'' => .str _ ?_⟩
 rw [Lib.decDigits_length]
 have : Lib.nDigits u ≤ 20 := by
  by_cases h0 : 1 ≤ u
  ·have := Lib.numDigits_eq u h0 (by omega); split at this <;> omega
  ·rw [Lib.nDigits_small (by omega)]; omega
 simp only [Int.toNat_natCast]
 unfold maxLen; omega

theorem Tryz.c115 (n : Int) (h : inR .u64 n) : Con Tryz.prog Tryz.L 115 [.int .u64 n, .int .i64 10] (.str (Lib.decDigits n.toNat)) := by
 refine rule115 Tryz.hL rfl rfl rfl ?_
 (simp only [pc115, rs115, oU, oC]; refine ev0 ?_; try exact ⟨⟩)
 refine callF_of (Tryz.c137 n h) ?_
 (refine ev0 ?_; try exact ⟨⟩)
end Go.Proofs
