/-
 AFFINE: plans and small vectors as arguments. Own work.
-/
import Derived.Test.YtbcehhemdapjlaaGreatDoorSj
import Derived.Test.YtbcehhemdapjlaaGreatDoorSi
set_option linter.unusedVariables false
set_option linter.unusedSimpArgs false
namespace Go.Pi
open Go
theorem Sh.toBoolM {P : Program} {N : Nat} {t : TypeId} {ds : List D} (h : Sh P N t ds) (hu : P.underlying t = some .bool) : ∃ b, ds = [.bool b] := by
 cases h with
 | int k' n hu' hn => rw [hu] at hu'; cases hu'
 | bool b hu' => exact ⟨b, rfl⟩
 | str s hu' => rw [hu] at hu'; cases hu'
 | sl rs hu' => rw [hu] at hu'; cases hu'
 | arr rs hu' => rw [hu] at hu'; cases hu'
 | struct rs hu' => rw [hu] at hu'; cases hu'
end Go.Pi
namespace Go.Proofs.YtbcehhemdapjlaaGreatDoor
open Go Go.Pi Go.ChangeShapes Go.WideShapes Go.ChangeAt Go.RowKit

theorem i8_wf {n : Int} (h : (Lit.int .i8 n).wf = true) : -128 ≤ n ∧ n ≤ 127 := by
 simp only [Lit.wf, Bool.and_eq_true, decide_eq_true_eq] at h
 rw [show IntKind.i8.min = -128 by decide, show IntKind.i8.max = 127 by decide] at h
 exact h
theorem sh_v3 {N : Nat} {ds : List D} (h : Sh Tryz.prog N 23 ds) : ∃ a b c : Int, ds = [.int .i8 a, .int .i8 b, .int .i8 c] ∧ i8 a ∧ i8 b ∧ i8 c := by
 obtain ⟨rs, e, hl, hr⟩ := h.toArr Tryz.underlying23
 match rs, hl with
 | [r0, r1, r2], _ =>
   obtain ⟨a, rfl, ha⟩ := Sh.toInt (hr r0 (by simp)) Tryz.underlying22
   obtain ⟨b, rfl, hb⟩ := Sh.toInt (hr r1 (by simp)) Tryz.underlying22
   obtain ⟨c, rfl, hc⟩ := Sh.toInt (hr r2 (by simp)) Tryz.underlying22
   exact ⟨a, b, c, e, i8_wf ha, i8_wf hb, i8_wf hc⟩
set_option maxRecDepth 100000 in
theorem arg_plan {H : Type} {enc : TypeId × Value → H} {W : World} {base b : Nat} {sp : Nat → Bool} {held : Bool} {v : Value} {d : DataW H} {ps : List MemPlace}
  (hv : Value.okWide Tryz.prog W .any b 26 v) (h : DataW.Trod enc Tryz.prog W base sp held 26 v d ps) (hd : Rows.uptoBulk d ≤ 1048576) :
  ∃ p : Pl, p.ok ∧ Rep (RS W) W (.agg p.D) v := by
 obtain ⟨cs, rfl⟩ : ∃ cs, v = .agg cs := by
  simp only [Value.okWide, Tryz.underlying26] at hv
  obtain ⟨cs, h1, _⟩ := hv
  exact ⟨cs, h1⟩
 obtain ⟨fuel, h⟩ := h
 obtain ⟨ds, h1, h2, h3⟩ := reps_of_trod (N := 1048576) bulk 8 26 fuel cs.toList (d, ps) (by kernel_rfl) h hd
 obtain ⟨rs, e, hl, hr⟩ := h3.toStruct Tryz.underlying26
 match rs, hl with
 | [r0, r1, r2], _ =>
   obtain ⟨ss, e0, hl0, hs⟩ := Sh.toArr (hr 0 _ r0 rfl rfl) Tryz.underlying24
   obtain ⟨x9, x10, x11, rfl, k9, k10, k11⟩ := sh_v3 (hr 1 _ r1 rfl rfl)
   obtain ⟨z, rfl⟩ := Sh.toBoolM (hr 2 _ r2 rfl rfl) Tryz.underlying4
   match ss, hl0 with
   | [s0, s1, s2], _ =>
     obtain ⟨x0, x1, x2, rfl, k0, k1, k2⟩ := sh_v3 (hs s0 (by simp))
     obtain ⟨x3, x4, x5, rfl, k3, k4, k5⟩ := sh_v3 (hs s1 (by simp))
     obtain ⟨x6, x7, x8, rfl, k6, k7, k8⟩ := sh_v3 (hs s2 (by simp))
     refine ⟨⟨fun i => [x0, x1, x2, x3, x4, x5, x6, x7, x8, x9, x10, x11].getD i 0, z⟩, fun i hi => ?_, ?_⟩
     ·match i, hi with
      | 0, _ => exact k0
      | 1, _ => exact k1
      | 2, _ => exact k2
      | 3, _ => exact k3
      | 4, _ => exact k4
      | 5, _ => exact k5
      | 6, _ => exact k6
      | 7, _ => exact k7
      | 8, _ => exact k8
      | 9, _ => exact k9
      | 10, _ => exact k10
      | 11, _ => exact k11
     ·subst e0
      have e2 : ds = Pl.D ⟨fun i => [x0, x1, x2, x3, x4, x5, x6, x7, x8, x9, x10, x11].getD i 0, z⟩ := e
      rw [← e2]
      exact .agg ds cs.toList h1.1 h2 h1.2
end Go.Proofs.YtbcehhemdapjlaaGreatDoor
