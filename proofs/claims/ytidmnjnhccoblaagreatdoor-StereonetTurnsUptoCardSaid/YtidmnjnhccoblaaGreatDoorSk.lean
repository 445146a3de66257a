/-
  STEREONET: nets, vectors, lists of vectors as arguments. Own work.
-/
import Derived.Test.YtidmnjnhccoblaaGreatDoorSj
import Derived.Test.YtidmnjnhccoblaaGreatDoorSf
set_option linter.unusedVariables false
set_option linter.unusedSimpArgs false
namespace Go.Proofs.YtidmnjnhccoblaaGreatDoor
open Go Go.Pi Go.ChangeShapes Go.WideShapes Go.ChangeAt Go.RowKit Go.Ne

theorem i64_wf {n : Int} (h : (Lit.int .i64 n).wf = true) : inR .i64 n := by
  simp only [Lit.wf, Bool.and_eq_true, decide_eq_true_eq] at h
  rw [show IntKind.i64.min = -9223372036854775808 by decide, show IntKind.i64.max = 9223372036854775807 by decide] at h
  rw [inR_i64]; omega
theorem i8_wf {n : Int} (h : (Lit.int .i8 n).wf = true) : -128 ≤ n ∧ n ≤ 127 := by
  simp only [Lit.wf, Bool.and_eq_true, decide_eq_true_eq] at h
  rw [show IntKind.i8.min = -128 by decide, show IntKind.i8.max = 127 by decide] at h
  exact h
theorem u8_wf {n : Int} (h : (Lit.int .u8 n).wf = true) : 0 ≤ n ∧ n ≤ 255 := by
  simp only [Lit.wf, Bool.and_eq_true, decide_eq_true_eq] at h
  rw [show IntKind.u8.min = 0 by decide, show IntKind.u8.max = 255 by decide] at h
  exact h
set_option maxRecDepth 100000 in
theorem arg_net {H : Type} {enc : TypeId × Value → H} {W : World} {base b : Nat} {sp : Nat → Bool} {held : Bool} {v : Value} {d : DataW H} {ps : List MemPlace}
    (hv : Value.okWide Tryz.prog W .any b 23 v) (h : DataW.Trod enc Tryz.prog W base sp held 23 v d ps) (hd : Rows.uptoBulk d ≤ 1048576) :
    ∃ p : Int × Int, (inR .i64 p.1 ∧ inR .i64 p.2) ∧ Rep (RS W) W (netD p.1 p.2) v := by
  obtain ⟨cs, rfl⟩ : ∃ cs, v = .agg cs := by
    simp only [Value.okWide, Tryz.underlying23] at hv
    obtain ⟨cs, h1, _⟩ := hv
    exact ⟨cs, h1⟩
  obtain ⟨fuel, h⟩ := h
  obtain ⟨ds, h1, h2, h3⟩ := reps_of_trod (N := 1048576) bulk 8 23 fuel cs.toList (d, ps) (by kernel_rfl) h hd
  obtain ⟨rs, e, hl, hr⟩ := h3.toStruct Tryz.underlying23
  match rs, hl with
  | [r0, r1], _ =>
    obtain ⟨x, rfl, hx⟩ := Sh.toInt (hr 0 _ r0 rfl rfl) Tryz.underlying3
    obtain ⟨y, rfl, hy⟩ := Sh.toInt (hr 1 _ r1 rfl rfl) Tryz.underlying3
    refine ⟨(x, y), ⟨i64_wf hx, i64_wf hy⟩, ?_⟩
    have e2 : ds = [.int .i64 x, .int .i64 y] := e
    show Rep _ _ (.agg [.int .i64 x, .int .i64 y]) _
    rw [← e2]
    exact .agg ds cs.toList h1.1 h2 h1.2
set_option maxRecDepth 100000 in
theorem arg_t8 {H : Type} {enc : TypeId × Value → H} {W : World} {base b : Nat} {sp : Nat → Bool} {held : Bool} {v : Value} {d : DataW H} {ps : List MemPlace}
    (hv : Value.okWide Tryz.prog W .any b 58 v) (h : DataW.Trod enc Tryz.prog W base sp held 58 v d ps) (hd : Rows.uptoBulk d ≤ 1048576) :
    ∃ x : Int × Int × Int, ((-128 ≤ x.1 ∧ x.1 ≤ 127) ∧ (-128 ≤ x.2.1 ∧ x.2.1 ≤ 127) ∧ (-128 ≤ x.2.2 ∧ x.2.2 ≤ 127)) ∧ Rep (RS W) W (.agg [.int .i8 x.1, .int .i8 x.2.1, .int .i8 x.2.2]) v := by
  obtain ⟨cs, rfl⟩ : ∃ cs, v = .agg cs := by
    simp only [Value.okWide, Tryz.underlying58] at hv
    obtain ⟨cs, h1, _⟩ := hv
    exact ⟨cs, h1⟩
  obtain ⟨fuel, h⟩ := h
  obtain ⟨ds, h1, h2, h3⟩ := reps_of_trod (N := 1048576) bulk 8 58 fuel cs.toList (d, ps) (by kernel_rfl) h hd
  obtain ⟨rs, e, hl, h⟩ := h3.toArr Tryz.underlying58
  match rs, hl with
  | [r0, r1, r2], _ =>
    obtain ⟨a, rfl, ha⟩ := Sh.toInt (h r0 (by simp)) Tryz.underlying57
    obtain ⟨b, rfl, hb⟩ := Sh.toInt (h r1 (by simp)) Tryz.underlying57
    obtain ⟨c, rfl, hc⟩ := Sh.toInt (h r2 (by simp)) Tryz.underlying57
    refine ⟨(a, b, c), ⟨i8_wf ha, i8_wf hb, i8_wf hc⟩, ?_⟩
    have e2 : ds = [.int .i8 a, .int .i8 b, .int .i8 c] := e
    show Rep _ _ (.agg [.int .i8 a, .int .i8 b, .int .i8 c]) _
    rw [← e2]
    exact .agg ds cs.toList h1.1 h2 h1.2
end Go.Proofs.YtidmnjnhccoblaaGreatDoor
