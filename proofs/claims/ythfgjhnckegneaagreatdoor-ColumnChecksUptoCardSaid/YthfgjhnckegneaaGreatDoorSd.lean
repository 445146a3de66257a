/-
  slices.Backward of layers hands back its closure. Own work.
-/
import Derived.Test.YthfgjhnckegneaaGreatDoorSb
namespace Go.Proofs
open Go Go.Pi Go.RowKit

theorem Tryz.c14 {L : World → Prop} (n : Nat) (cs : List D) : Con Tryz.prog L 14 [.sl n cs] (.clo 53 [.pt [.sl n cs]]) := by
  refine ⟨⟨by kernel_rfl, rfl⟩, fun S w vs hS hL hv => ?_⟩
  obtain ⟨x, rfl, hx⟩ := reps_1 hv
  obtain ⟨a, cap, rfl⟩ : ∃ a cap, x = .slice a n cap := by cases hx <;> exact ⟨_, _, rfl⟩
  have HX := Lib.hid hx
  clear hx hv
  go_enter Tryz.func14, Tryz.ntmps14
  go_wp2
  go_ret
  exact ⟨_, rfl, (Below.refl _ _).alloc (Nat.le_refl _) _, back_res HX.out hS⟩
end Go.Proofs
