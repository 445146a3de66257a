/-
 slices.Backward hands back its closure. Own work.
-/
import Derived.Test.YtkfmblmamoofjaaGreatDoorPi
import Derived.WalkKit
import Derived.Lib.Hide
import Derived.Test.YtkfmblmamoofjaaGreatDoorProg
set_option linter.unusedVariables false
set_option linter.unusedSimpArgs false
namespace Go.Proofs
open Go Go.Pi Go.RowKit

theorem back_res {P : Program} {S : Nat → Nat → Prop} {w : World} {f t : Nat} {n : Nat} {cs : List D} {x : Value} (hx : Rep S w (.sl n cs) x) (hS : ∀ b j, S b j → b < w.heap.size) :
  Res P S w (w.alloc (.cells #[x] t)) (.clo f [.pt [.sl n cs]]) (.func (.func f) #[] #[.pointer (some ⟨w.heap.size, 0, none⟩)]) := by
 have hr : Rep (fun b j => S b j ∨ (w.heap.size ≤ b ∧ b < (w.alloc (.cells #[x] t)).heap.size)) (w.alloc (.cells #[x] t)) (.sl n cs) x :=
  hx.mono (fun _ _ h => .inl h) (fun b o h => cell_of_heap (Below.heap_alloc _ _ b (hS b o h)))
 refine .clo f _ [.pointer (some ⟨w.heap.size, 0, none⟩)] rfl (Reps.cons (.pt [.sl n cs] w.heap.size 0 [x] rfl (by simp [D.one]) ?_ (Reps.cons hr .nil).2) .nil).2
 intro i v hi
 match i with
 | 0 =>
   simp only [List.getElem?_cons_zero, Option.some.injEq] at hi
   subst hi
   exact ⟨.inr ⟨Nat.le_refl _, by simp⟩, by simp⟩
 | i + 1 => simp at hi

theorem reps_1 {S : Nat → Nat → Prop} {w : World} {d : D} {vs : List Value} (h : Reps S w [d] vs) : ∃ x, vs = [x] ∧ Rep S w d x := by
 obtain ⟨x, vs', rfl, h1, h2⟩ := h.uncons
 have : vs' = [] := by cases vs' with | nil => rfl | cons _ _ => have := h2.1; simp at this
 subst this
 exact ⟨x, rfl, h1⟩

theorem Tryz.c112 {L : World → Prop} (n : Nat) (cs : List D) : Con Tryz.prog L 112 [.sl n cs] (.clo 135 [.pt [.sl n cs]]) := by
 refine ⟨⟨by kernel_rfl, rfl⟩, fun S w vs hS hL hv => ?_⟩
 obtain ⟨x, rfl, hx⟩ := reps_1 hv
 obtain ⟨a, cap, rfl⟩ : ∃ a cap, x = .slice a n cap := by cases hx <;> exact ⟨_, _, rfl⟩
 have HX := Lib.hid hx
 clear hx hv
 go_enter Tryz.func112, Tryz.ntmps112
 go_wp2
 go_ret
 exact ⟨_, rfl, (Below.refl _ _).alloc (Nat.le_refl _) _, back_res HX.out hS⟩
end Go.Proofs
