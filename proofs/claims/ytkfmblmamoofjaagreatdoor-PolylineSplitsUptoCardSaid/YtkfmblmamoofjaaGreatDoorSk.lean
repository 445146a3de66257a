/-
 POLYLINE: lists of pairs of small ints as arguments. Own work.
-/
import Derived.Test.YtkfmblmamoofjaaGreatDoorSj
import Derived.Test.YtkfmblmamoofjaaGreatDoorSh
set_option linter.unusedVariables false
set_option linter.unusedSimpArgs false
namespace Go.Proofs.YtkfmblmamoofjaaGreatDoor
open Go Go.Pi Go.ChangeShapes Go.WideShapes Go.ChangeAt Go.RowKit

theorem i8_wf {n : Int} (h : (Lit.int .i8 n).wf = true) : -128 ≤ n ∧ n ≤ 127 := by
 simp only [Lit.wf, Bool.and_eq_true, decide_eq_true_eq] at h
 rw [show IntKind.i8.min = -128 by decide, show IntKind.i8.max = 127 by decide] at h
 exact h
theorem sh_q8 {N : Nat} {ds : List D} (h : Sh Tryz.prog N 50 ds) : ∃ p : Q8, okQ p ∧ ds = q8D p := by
 obtain ⟨rs, rfl, hl, h⟩ := h.toArr Tryz.underlying50
 match rs, hl with
 | [r0, r1], _ =>
   obtain ⟨a, rfl, ha⟩ := Sh.toInt (h r0 (by simp)) Tryz.underlying49
   obtain ⟨b, rfl, hb⟩ := Sh.toInt (h r1 (by simp)) Tryz.underlying49
   exact ⟨(a, b), ⟨i8_wf ha, i8_wf hb⟩, rfl⟩
theorem sh_q8s {N : Nat} : ∀ {rs : List (List D)}, (∀ r ∈ rs, Sh Tryz.prog N 50 r) → ∃ l : List Q8, (∀ p ∈ l, okQ p) ∧ rs.length = l.length ∧ rs.flatten = q8s l
 | [], _ => ⟨[], fun x hx => (by cases hx), rfl, rfl⟩
 | r :: rs, h => by
   obtain ⟨p, hp, rfl⟩ := sh_q8 (h r (List.mem_cons_self ..))
   obtain ⟨l, h0, h1, h2⟩ := sh_q8s (rs := rs) fun r hr => h r (List.mem_cons_of_mem _ hr)
   refine ⟨p :: l, fun x hx => ?_, by simp [h1], by simp [h2, rows]⟩
   rcases List.mem_cons.1 hx with rfl | hx
   ·exact hp
   ·exact h0 x hx

set_option maxRecDepth 100000 in
theorem arg_q8s {H : Type} {enc : TypeId × Value → H} {W : World} {base b : Nat} {sp : Nat → Bool} {held : Bool} {v : Value} {d : DataW H} {ps : List MemPlace}
  (hv : Value.okWide Tryz.prog W .any b 22 v) (h : DataW.Trod enc Tryz.prog W base sp held 22 v d ps) (hd : Rows.uptoBulk d ≤ 1048576) : ∃ l : List Q8, (l.length ≤ 1048576 ∧ ∀ p ∈ l, okQ p) ∧ Rep (RS W) W (.sl l.length (q8s l)) v := by
 obtain ⟨a, n, c, rfl⟩ := okWide_slice Tryz.underlying22 hv
 obtain ⟨fuel, h⟩ := h
 obtain ⟨ds, h1, h2, h3⟩ := reps_of_trod (N := 1048576) bulk 8 22 fuel [.slice a n c] (d, ps) (by kernel_rfl) h hd
 obtain ⟨rs, rfl, hl, hr⟩ := h3.toSl Tryz.underlying22
 obtain ⟨l, e0, e1, e2⟩ := sh_q8s hr
 refine ⟨l, ⟨by omega, e0⟩, ?_⟩
 rw [← e1, ← e2]
 exact h1.2 0 _ _ rfl rfl
end Go.Proofs.YtkfmblmamoofjaaGreatDoor
