/-
  OWN ROWS of pairs of strings, read as data. Own work.
-/
import Derived.Test.YtijkmdpdedagdaaGreatDoorPj
import Derived.Deep.AppendLies
set_option linter.unusedVariables false
set_option linter.unusedSimpArgs false
namespace Go.Pi
open Go Go.RowKit

section
variable {α : Type} (f g : α → List UInt8)
/-- the cells of a pair, and its data -/
def enc2 (x : α) : List Value := [.string ⟨(f x).toArray⟩, .string ⟨(g x).toArray⟩]
def dat2 (x : α) : List D := [.str (f x), .str (g x)]
def cel2 (l : List α) : List Value := l.flatMap (enc2 f g)
variable {f g}
end
section
variable {α : Type} {f g : α → List UInt8}
end
/-- a shorter row in the same block -/
theorem own_less {W : World} {base e sz b m n cap : Nat} {xs : List Value} (h : W.ownsRow base e sz (.slice (some ⟨b, 0, none⟩) n cap) n xs) (h1 : m ≤ n) : W.ownsRow base e sz (.slice (some ⟨b, 0, none⟩) m cap) m (xs.take (m * sz)) := by
  have hx := h.1
  rcases h.2 with ⟨h', _⟩ | ⟨b', cap', cur, h', hbg, hg, hmc, hcm, hcs, htk⟩
  · simp at h'
  · simp only [Value.slice.injEq, Option.some.injEq, Addr.mk.injEq, and_true, true_and] at h'
    obtain ⟨rfl, rfl⟩ := h'
    refine ⟨by rw [List.length_take, hx, Nat.min_eq_left (Nat.mul_le_mul_right _ h1)], .inr ⟨b, cap, cur, rfl, hbg, hg, by omega, hcm, hcs, ?_⟩⟩
    rw [← htk, List.take_take, Nat.min_eq_left (Nat.mul_le_mul_right _ h1)]
end Go.Pi
namespace Go.Pi
open Go Go.RowKit
variable {P : Program}
end Go.Pi
namespace Go.Pi
open Go Go.RowKit
theorem gr_trans {a b c : World} {r : Option Nat} (h : a.grownBy b r) (h2 : b.grownBy c r) : a.grownBy c r :=
  ⟨h2.os.trans h.os, h2.tape.trans h.tape, h2.output.trans h.output, Nat.le_trans h.size h2.size, fun k hk hn => (h2.block k (Nat.lt_of_lt_of_le hk h.size) hn).trans (h.block k hk hn)⟩
theorem gr_below {a b : World} {r : Option Nat} (h : Below a.heap.size a b) : a.grownBy b r := ⟨h.os, h.tape, h.output, h.size, fun k hk _ => h.block k hk⟩
theorem gr_self (a : World) {r : Option Nat} : a.grownBy a r := ⟨rfl, rfl, rfl, Nat.le_refl _, fun _ _ _ => rfl⟩
theorem gr_drew {a b : World} {r : Option Nat} (h : a.grownBy b r) : a.grownBy b.drew r := ⟨h.os, h.tape, h.output, h.size, h.block⟩
end Go.Pi
namespace Go.Pi
open Go Go.RowKit
theorem own_base {w : World} {base base' e sz : Nat} {v : Value} {n : Nat} {xs : List Value} (h : w.ownsRow base e sz v n xs) (hle : base' ≤ base) : w.ownsRow base' e sz v n xs := by
  refine ⟨h.1, ?_⟩
  rcases h.2 with h1 | ⟨g, cap, cur, h1, h2, h3⟩
  · exact .inl h1
  · exact .inr ⟨g, cap, cur, h1, Nat.le_trans hle h2, h3⟩
end Go.Pi
