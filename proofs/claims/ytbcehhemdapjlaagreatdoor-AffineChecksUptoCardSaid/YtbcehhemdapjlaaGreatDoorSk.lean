/-
 AFFINE: plans and small vectors as arguments. Own work.
-/
import Derived.Test.YtbcehhemdapjlaaGreatDoorSj
import Derived.Test.YtbcehhemdapjlaaGreatDoorSh
set_option linter.unusedVariables false
set_option linter.unusedSimpArgs false
namespace Go.Pi
open Go
end Go.Pi
namespace Go.Proofs.YtbcehhemdapjlaaGreatDoor
open Go Go.Pi Go.ChangeShapes Go.WideShapes Go.ChangeAt Go.RowKit

end Go.Proofs.YtbcehhemdapjlaaGreatDoor

/-
 AFFINE: maps and vectors of any texts as arguments. Own work.
-/
namespace Go.Proofs.YtbcehhemdapjlaaGreatDoor
open Go Go.Pi Go.ChangeShapes Go.WideShapes Go.ChangeAt Go.RowKit

theorem sh_t3 {N : Nat} {ds : List D} (h : Sh Tryz.prog N 30 ds) : ∃ v : T3, ds = v.L := by
 obtain ⟨rs, e, hl, hr⟩ := h.toStruct Tryz.underlying30
 match rs, hl with
 | [r0, r1, r2], _ =>
   obtain ⟨x, rfl, _⟩ := Sh.toStr (hr 0 _ r0 rfl rfl) Tryz.underlying28
   obtain ⟨y, rfl, _⟩ := Sh.toStr (hr 1 _ r1 rfl rfl) Tryz.underlying28
   obtain ⟨z, rfl, _⟩ := Sh.toStr (hr 2 _ r2 rfl rfl) Tryz.underlying28
   exact ⟨⟨x, y, z⟩, e⟩
set_option maxRecDepth 100000 in
theorem arg_t3 {H : Type} {enc : TypeId × Value → H} {W : World} {base b : Nat} {sp : Nat → Bool} {held : Bool} {v : Value} {d : DataW H} {ps : List MemPlace}
  (hv : Value.okWide Tryz.prog W .any b 30 v) (h : DataW.Trod enc Tryz.prog W base sp held 30 v d ps) (hd : Rows.uptoBulk d ≤ 1048576) :
  ∃ u : T3, Rep (RS W) W (.agg u.L) v := by
 obtain ⟨cs, rfl⟩ : ∃ cs, v = .agg cs := by
  simp only [Value.okWide, Tryz.underlying30] at hv
  obtain ⟨cs, h1, _⟩ := hv
  exact ⟨cs, h1⟩
 obtain ⟨fuel, h⟩ := h
 obtain ⟨ds, h1, h2, h3⟩ := reps_of_trod (N := 1048576) bulk 8 30 fuel cs.toList (d, ps) (by kernel_rfl) h hd
 obtain ⟨u, e⟩ := sh_t3 h3
 refine ⟨u, ?_⟩
 rw [← e]
 exact .agg ds cs.toList h1.1 h2 h1.2
set_option maxRecDepth 100000 in
theorem arg_tm {H : Type} {enc : TypeId × Value → H} {W : World} {base b : Nat} {sp : Nat → Bool} {held : Bool} {v : Value} {d : DataW H} {ps : List MemPlace}
  (hv : Value.okWide Tryz.prog W .any b 37 v) (h : DataW.Trod enc Tryz.prog W base sp held 37 v d ps) (hd : Rows.uptoBulk d ≤ 1048576) :
  ∃ m : TM, Rep (RS W) W (.agg m.L) v := by
 obtain ⟨cs, rfl⟩ : ∃ cs, v = .agg cs := by
  simp only [Value.okWide, Tryz.underlying37] at hv
  obtain ⟨cs, h1, _⟩ := hv
  exact ⟨cs, h1⟩
 obtain ⟨fuel, h⟩ := h
 obtain ⟨ds, h1, h2, h3⟩ := reps_of_trod (N := 1048576) bulk 8 37 fuel cs.toList (d, ps) (by kernel_rfl) h hd
 obtain ⟨rs, e, hl, hr⟩ := h3.toStruct Tryz.underlying37
 match rs, hl with
 | [r0, r1], _ =>
   obtain ⟨ss, e0, hl0, hs⟩ := Sh.toArr (hr 0 _ r0 rfl rfl) Tryz.underlying35
   obtain ⟨s, rfl⟩ := sh_t3 (hr 1 _ r1 rfl rfl)
   match ss, hl0 with
   | [s0, s1, s2], _ =>
     obtain ⟨a, rfl⟩ := sh_t3 (hs s0 (by simp))
     obtain ⟨b, rfl⟩ := sh_t3 (hs s1 (by simp))
     obtain ⟨c, rfl⟩ := sh_t3 (hs s2 (by simp))
     subst e0
     refine ⟨⟨a, b, c, s⟩, ?_⟩
     have e2 : ds = TM.L ⟨a, b, c, s⟩ := e
     rw [← e2]
     exact .agg ds cs.toList h1.1 h2 h1.2
end Go.Proofs.YtbcehhemdapjlaaGreatDoor
