/-
  SURD: lists of parts as arguments. Own work.
-/
import Derived.Test.YtpddmheiacgejaaGreatDoorSj
import Derived.Test.YtpddmheiacgejaaGreatDoorSg
namespace Go.Proofs.YtpddmheiacgejaaGreatDoor
open Go Go.Pi Go.ChangeShapes Go.WideShapes Go.ChangeAt Go.RowKit

theorem sh_part {N : Nat} {ds : List D} (h : Sh Tryz.prog N 91 ds) : ∃ p : Pa, okP p ∧ ds = paD p := by
  obtain ⟨rs, rfl, hl, h⟩ := h.toStruct Tryz.underlying91
  match rs, hl with
  | [r0, r1, r2], _ =>
    obtain ⟨a, rfl, ha⟩ := Sh.toInt (h 0 _ r0 rfl rfl) Tryz.underlying89
    obtain ⟨b, rfl, hb⟩ := Sh.toInt (h 1 _ r1 rfl rfl) Tryz.underlying5
    obtain ⟨c, rfl, hc⟩ := Sh.toInt (h 2 _ r2 rfl rfl) Tryz.underlying5
    simp only [Lit.wf, Bool.and_eq_true, decide_eq_true_eq] at ha hb hc
    have e1 : IntKind.u8.min = 0 := by decide
    have e2 : IntKind.u8.max = 255 := by decide
    have e3 : IntKind.i8.min = -128 := by decide
    have e4 : IntKind.i8.max = 127 := by decide
    rw [e1, e2] at hb hc
    rw [e3, e4] at ha
    exact ⟨(a, b, c), ⟨ha.1, by have := ha.2; omega, hb.1, by have := hb.2; omega, hc.1, by have := hc.2; omega⟩, rfl⟩
theorem sh_parts {N : Nat} : ∀ {rs : List (List D)}, (∀ r ∈ rs, Sh Tryz.prog N 91 r) → ∃ l : List Pa, (∀ p ∈ l, okP p) ∧ rs.length = l.length ∧ rs.flatten = pas l
  | [], _ => ⟨[], fun x hx => (by cases hx), rfl, rfl⟩
  | r :: rs, h => by
    obtain ⟨p, hp, rfl⟩ := sh_part (h r (List.mem_cons_self ..))
    obtain ⟨l, h0, h1, h2⟩ := sh_parts (rs := rs) fun r hr => h r (List.mem_cons_of_mem _ hr)
    refine ⟨p :: l, fun x hx => ?_, by simp [h1], by simp [h2, rows]⟩
    rcases List.mem_cons.1 hx with rfl | hx
    · exact hp
    · exact h0 x hx

set_option maxRecDepth 100000 in
theorem arg_parts {H : Type} {enc : TypeId × Value → H} {W : World} {base b : Nat} {sp : Nat → Bool} {held : Bool} {v : Value} {d : DataW H} {ps : List MemPlace}
    (hv : Value.okWide Tryz.prog W .any b 41 v) (h : DataW.Trod enc Tryz.prog W base sp held 41 v d ps) (hd : Rows.uptoBulk d ≤ 1048576) : ∃ l : List Pa, (l.length ≤ 1048576 ∧ ∀ p ∈ l, okP p) ∧ Rep (RS W) W (.sl l.length (pas l)) v := by
  obtain ⟨a, n, c, rfl⟩ := okWide_slice Tryz.underlying41 hv
  obtain ⟨fuel, h⟩ := h
  obtain ⟨ds, h1, h2, h3⟩ := reps_of_trod (N := 1048576) bulk 8 41 fuel [.slice a n c] (d, ps) (by kernel_rfl) h hd
  obtain ⟨rs, rfl, hl, hr⟩ := h3.toSl Tryz.underlying41
  obtain ⟨l, e0, e1, e2⟩ := sh_parts hr
  refine ⟨l, ⟨by omega, e0⟩, ?_⟩
  rw [← e1, ← e2]
  exact h1.2 0 _ _ rfl rfl
end Go.Proofs.YtpddmheiacgejaaGreatDoor
