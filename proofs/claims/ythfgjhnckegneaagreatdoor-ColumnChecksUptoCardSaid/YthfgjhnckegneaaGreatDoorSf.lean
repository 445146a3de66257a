import Derived.Test.YthfgjhnckegneaaGreatDoorPj
import Derived.Test.YthfgjhnckegneaaGreatDoorEa
import Derived.Test.YthfgjhnckegneaaGreatDoorEb
import Derived.Test.YthfgjhnckegneaaGreatDoorRb
namespace Go.Proofs
open Go Go.Pi Go.RowKit

theorem Tryz.c167 (n : Int) (h : inR .u64 n) : Con Tryz.prog Tryz.L 167 [.int .u64 n, .int .i64 10] (.str (Lib.decDigits n.toNat)) := by
  rw [inR_u64] at h
  obtain ⟨u, rfl⟩ : ∃ u : Nat, n = u := ⟨n.toNat, by omega⟩
  refine con_val (by kernel_rfl) rfl fun S w vs hL hv => ?_
  obtain ⟨x, vs', rfl, h1, h2⟩ := hv.uncons
  obtain ⟨y, vs', rfl, h3, h4⟩ := h2.uncons
  have : vs' = [] := by cases vs' with | nil => rfl | cons _ _ => have := h4.1; simp at this
  subst this
  cases h1; cases h3
  refine (Tryz.FormatUint_10 u (by omega) w hL.1).mono ?_
  rintro e w' ⟨rfl, k, os, rfl⟩
  refine ⟨_, rfl, Lib.below_grow _ w (Nat.le_refl _) k os, fun S' w'' => .str _ ?_⟩
  rw [Lib.decDigits_length]
  have : Lib.nDigits u ≤ 20 := by
    by_cases h0 : 1 ≤ u
    · have := Lib.numDigits_eq u h0 (by omega); split at this <;> omega
    · rw [Lib.nDigits_small (by omega)]; omega
  simp only [Int.toNat_natCast]
  unfold maxLen; omega

theorem Tryz.c145 (n : Int) (h : inR .u64 n) : Con Tryz.prog Tryz.L 145 [.int .u64 n, .int .i64 10] (.str (Lib.decDigits n.toNat)) := by
  refine rule145 Tryz.hL rfl rfl rfl ?_
  (simp only [pc145, rs145]; refine ev0 ?_; try with_reducible exact trivial)
  refine callF_of (Tryz.c167 n h) ?_
  (refine ev0 ?_; try with_reducible exact trivial)
end Go.Proofs
