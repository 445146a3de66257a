/-
  KINK: profiles as arguments. Own work.
-/
import Derived.Test.YtokpkgcjjbdinaaGreatDoorSh
import Derived.Test.YtokpkgcjjbdinaaGreatDoorSg
set_option linter.unusedVariables false
set_option linter.unusedSimpArgs false
namespace Go.Proofs.YtokpkgcjjbdinaaGreatDoor
open Go Go.Pi Go.ChangeShapes Go.WideShapes Go.ChangeAt Go.RowKit

theorem sh_txs {N : Nat} : ∀ {rs : List (List D)}, (∀ r ∈ rs, Sh Tryz.prog N 22 r) → ∃ l : List (List UInt8), (∀ s ∈ l, s.length ≤ N) ∧ rs.length = l.length ∧ rs.flatten = txs l
  | [], _ => ⟨[], fun x hx => (by cases hx), rfl, rfl⟩
  | r :: rs, h => by
    obtain ⟨s, rfl, hs⟩ := Sh.toStr (h r (List.mem_cons_self ..)) Tryz.underlying22
    obtain ⟨l, h0, h1, h2⟩ := sh_txs (rs := rs) fun r hr => h r (List.mem_cons_of_mem _ hr)
    refine ⟨s :: l, fun x hx => ?_, by simp [h1], by simp [h2]⟩
    rcases List.mem_cons.1 hx with rfl | hx
    · exact hs
    · exact h0 x hx
set_option maxRecDepth 100000 in
theorem arg_prof {H : Type} {enc : TypeId × Value → H} {W : World} {base b : Nat} {sp : Nat → Bool} {held : Bool} {v : Value} {d : DataW H} {ps : List MemPlace}
    (hv : Value.okWide Tryz.prog W .any b 38 v) (h : DataW.Trod enc Tryz.prog W base sp held 38 v d ps) (hd : Rows.uptoBulk d ≤ 1048576) :
    ∃ p : TP, (p.D.length ≤ 1048576 ∧ p.L.length ≤ 1048576) ∧ Rep (RS W) W (.agg (tpD p)) v := by
  obtain ⟨cs, rfl⟩ : ∃ cs, v = .agg cs := by
    simp only [Value.okWide, Tryz.underlying38] at hv
    obtain ⟨cs, h1, _⟩ := hv
    exact ⟨cs, h1⟩
  obtain ⟨fuel, h⟩ := h
  obtain ⟨ds, h1, h2, h3⟩ := reps_of_trod (N := 1048576) bulk 8 38 fuel cs.toList (d, ps) (by kernel_rfl) h hd
  obtain ⟨rs, e, hl, hr⟩ := h3.toStruct Tryz.underlying38
  match rs, hl with
  | [r0, r1, r2], _ =>
    obtain ⟨ss, e0, hl0, hs⟩ := Sh.toStruct (hr 0 _ r0 rfl rfl) Tryz.underlying25
    obtain ⟨xs, rfl, kl1, kr1⟩ := Sh.toSl (hr 1 _ r1 rfl rfl) Tryz.underlying36
    obtain ⟨ys, rfl, kl2, kr2⟩ := Sh.toSl (hr 2 _ r2 rfl rfl) Tryz.underlying36
    obtain ⟨l1, i0, i1, i2⟩ := sh_txs kr1
    obtain ⟨l2, j0, j1, j2⟩ := sh_txs kr2
    match ss, hl0 with
    | [s0, s1], _ =>
      obtain ⟨x, rfl, hx⟩ := Sh.toStr (hs 0 _ s0 rfl rfl) Tryz.underlying22
      obtain ⟨y, rfl, hy⟩ := Sh.toStr (hs 1 _ s1 rfl rfl) Tryz.underlying22
      refine ⟨⟨x, y, l1, l2⟩, ⟨by show l1.length ≤ _; omega, by show l2.length ≤ _; omega⟩, ?_⟩
      subst e0
      rw [i1, i2, j1, j2] at e
      have e2 : ds = tpD ⟨x, y, l1, l2⟩ := e
      rw [← e2]
      exact .agg ds cs.toList h1.1 h2 h1.2
end Go.Proofs.YtokpkgcjjbdinaaGreatDoor
