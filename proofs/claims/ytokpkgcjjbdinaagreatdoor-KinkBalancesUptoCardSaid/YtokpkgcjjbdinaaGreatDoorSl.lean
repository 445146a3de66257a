/-
 KINK: plans as arguments. Own work.
-/
import Derived.Test.YtokpkgcjjbdinaaGreatDoorSk
import Derived.Test.YtokpkgcjjbdinaaGreatDoorSg
set_option linter.unusedVariables false
set_option linter.unusedSimpArgs false
namespace Go.Proofs.YtokpkgcjjbdinaaGreatDoor
open Go Go.Pi Go.ChangeShapes Go.WideShapes Go.ChangeAt Go.RowKit

theorem i8_wf {n : Int} (h : (Lit.int .i8 n).wf = true) : i8K n := by
 simp only [Lit.wf, Bool.and_eq_true, decide_eq_true_eq] at h
 rw [show IntKind.i8.min = -128 by decide, show IntKind.i8.max = 127 by decide] at h
 exact h
theorem sh_p8 {N : Nat} {ds : List D} (h : Sh Tryz.prog N 32 ds) : ∃ a b : Int, (i8K a ∧ i8K b) ∧ ds = [.int .i8 a, .int .i8 b] := by
 obtain ⟨rs, rfl, hl, h⟩ := h.toArr Tryz.underlying32
 match rs, hl with
 | [r0, r1], _ =>
   obtain ⟨a, rfl, ha⟩ := Sh.toInt (h r0 (by simp)) Tryz.underlying31
   obtain ⟨b, rfl, hb⟩ := Sh.toInt (h r1 (by simp)) Tryz.underlying31
   exact ⟨a, b, ⟨i8_wf ha, i8_wf hb⟩, rfl⟩
theorem sh_p8s {N : Nat} : ∀ {rs : List (List D)}, (∀ r ∈ rs, Sh Tryz.prog N 32 r) → ∃ l : List (Int × Int), (∀ p ∈ l, i8K p.1 ∧ i8K p.2) ∧ rs.length = l.length ∧ rs.flatten = l.flatMap fun q => [.int .i8 q.1, .int .i8 q.2]
 | [], _ => ⟨[], fun x hx => (by cases hx), rfl, rfl⟩
 | r :: rs, h => by
   obtain ⟨a, b, hp, rfl⟩ := sh_p8 (h r (List.mem_cons_self ..))
   obtain ⟨l, h0, h1, h2⟩ := sh_p8s (rs := rs) fun r hr => h r (List.mem_cons_of_mem _ hr)
   refine ⟨(a, b) :: l, fun x hx => ?_, by simp [h1], by simp [h2]⟩
   rcases List.mem_cons.1 hx with rfl | hx
   ·exact hp
   ·exact h0 x hx
set_option maxRecDepth 100000 in
theorem arg_p8 {H : Type} {enc : TypeId × Value → H} {W : World} {base b : Nat} {sp : Nat → Bool} {held : Bool} {v : Value} {d : DataW H} {ps : List MemPlace}
  (hv : Value.okWide Tryz.prog W .any b 32 v) (h : DataW.Trod enc Tryz.prog W base sp held 32 v d ps) (hd : Rows.uptoBulk d ≤ 1048576) :
  ∃ x y : Int, (i8K x ∧ i8K y) ∧ Rep (RS W) W (.agg [.int .i8 x, .int .i8 y]) v := by
 obtain ⟨cs, rfl⟩ : ∃ cs, v = .agg cs := by
  simp only [Value.okWide, Tryz.underlying32] at hv
  obtain ⟨cs, h1, _⟩ := hv
  exact ⟨cs, h1⟩
 obtain ⟨fuel, h⟩ := h
 obtain ⟨ds, h1, h2, h3⟩ := reps_of_trod (N := 1048576) bulk 8 32 fuel cs.toList (d, ps) (by kernel_rfl) h hd
 obtain ⟨x, y, hh, e⟩ := sh_p8 h3
 refine ⟨x, y, hh, ?_⟩
 rw [← e]
 exact .agg ds cs.toList h1.1 h2 h1.2
set_option maxRecDepth 100000 in
theorem arg_plan {H : Type} {enc : TypeId × Value → H} {W : World} {base b : Nat} {sp : Nat → Bool} {held : Bool} {v : Value} {d : DataW H} {ps : List MemPlace}
  (hv : Value.okWide Tryz.prog W .any b 35 v) (h : DataW.Trod enc Tryz.prog W base sp held 35 v d ps) (hd : Rows.uptoBulk d ≤ 1048576) :
  ∃ p : PlK, p.fit ∧ Rep (RS W) W (.agg p.D) v := by
 obtain ⟨cs, rfl⟩ : ∃ cs, v = .agg cs := by
  simp only [Value.okWide, Tryz.underlying35] at hv
  obtain ⟨cs, h1, _⟩ := hv
  exact ⟨cs, h1⟩
 obtain ⟨fuel, h⟩ := h
 obtain ⟨ds, h1, h2, h3⟩ := reps_of_trod (N := 1048576) bulk 8 35 fuel cs.toList (d, ps) (by kernel_rfl) h hd
 obtain ⟨rs, e, hl, hr⟩ := h3.toStruct Tryz.underlying35
 match rs, hl with
 | [r0, r1], _ =>
   obtain ⟨x, y, ⟨hx, hy⟩, rfl⟩ := sh_p8 (hr 0 _ r0 rfl rfl)
   obtain ⟨xs, rfl, kl, kr⟩ := Sh.toSl (hr 1 _ r1 rfl rfl) Tryz.underlying33
   obtain ⟨l, i0, i1, i2⟩ := sh_p8s kr
   refine ⟨⟨x, y, l⟩, ⟨hx, hy, i0, by show l.length ≤ _; omega⟩, ?_⟩
   rw [i1, i2] at e
   have e2 : ds = PlK.D ⟨x, y, l⟩ := e
   rw [← e2]
   exact .agg ds cs.toList h1.1 h2 h1.2
end Go.Proofs.YtokpkgcjjbdinaaGreatDoor
