/-
 What a function has made reads as a plain slice. Own work.
-/
import Derived.Test.YtbcehhemdapjlaaGreatDoorPj
set_option linter.unusedVariables false
set_option linter.unusedSimpArgs false
namespace Go.Proofs
open Go Go.Pi Go.RowKit
theorem Con.flat {P : Program} {L : World → Prop} {f : FuncId} {ds : List D} {wr : Bool} {e m : Nat} {cs : List D} (h : Con P L f ds (.own wr e m cs)) : Con P L f ds (.sl m cs) := by
 refine ⟨⟨h.1.1, rfl⟩, fun S w vs hS hL hv => ((h.2 S w vs hS hL hv).mono ?_)⟩
 rintro e1 w' ⟨v, rfl, hb, ob, h1, h2⟩
 refine ⟨v, rfl, hb, ?_⟩
 show Rep _ w' (.sl m cs) v
 simp only [OwnR] at h2
 rcases h2 with ⟨_, rfl, rfl, rfl⟩ | ⟨b, cap, arr, rfl, rfl, h3, h4, h5, h6, h7, h8, h9, h10, h11⟩
 ·exact .sl0 none 0 (Nat.zero_le _)
 ·have h8' := h8.mono (S' := fun b j => S b j ∨ (w.heap.size ≤ b ∧ b < w'.heap.size)) (w' := w') (fun b o hh => hh.elim .inl fun hh => .inr ⟨hh.1, hh.2.1⟩) (fun _ _ _ => rfl)
  refine .sl m cs b 0 cap _ h8'.1 h9 h4 h5 ?_ h8'.2
  rw [← h7]
  exact Row.ofBlock h3 (fun j hj => .inr (h1 b rfl))
end Go.Proofs
