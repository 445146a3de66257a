/-
  CERTIFICATES: lists of descriptions as arguments. Own work.
-/
import Derived.Test.YtijkmdpdedagdaaGreatDoorSh
import Derived.Test.YtijkmdpdedagdaaGreatDoorSg
set_option linter.unusedVariables false
set_option linter.unusedSimpArgs false
namespace Go.Proofs.YtijkmdpdedagdaaGreatDoor
open Go Go.Pi Go.ChangeShapes Go.WideShapes Go.ChangeAt Go.RowKit Go.Tp

theorem u8_nat {n : Int} (h : (Lit.int .u8 n).wf = true) : ∃ m : Nat, m < 256 ∧ n = m := by
  simp only [Lit.wf, Bool.and_eq_true, decide_eq_true_eq] at h
  rw [show IntKind.u8.min = 0 by decide, show IntKind.u8.max = 255 by decide] at h
  exact ⟨n.toNat, by omega, by omega⟩
theorem sh_s8 {N : Nat} {ds : List D} (h : Sh Tryz.prog N 39 ds) : ∃ p : Sn, p.ok ∧ ds = snD p := by
  obtain ⟨rs, rfl, hl, h⟩ := h.toArr Tryz.underlying39
  match rs, hl with
  | [r0, r1, r2], _ =>
    obtain ⟨a, rfl, ha⟩ := Sh.toInt (h r0 (by simp)) Tryz.underlying5
    obtain ⟨b, rfl, hb⟩ := Sh.toInt (h r1 (by simp)) Tryz.underlying5
    obtain ⟨c, rfl, hc⟩ := Sh.toInt (h r2 (by simp)) Tryz.underlying5
    obtain ⟨a', ha1, rfl⟩ := u8_nat ha
    obtain ⟨b', hb1, rfl⟩ := u8_nat hb
    obtain ⟨c', hc1, rfl⟩ := u8_nat hc
    exact ⟨⟨a', b', c'⟩, ⟨ha1, hb1, hc1⟩, rfl⟩
theorem sh_s8s {N : Nat} : ∀ {rs : List (List D)}, (∀ r ∈ rs, Sh Tryz.prog N 39 r) → ∃ l : List Sn, (∀ p ∈ l, p.ok) ∧ rs.length = l.length ∧ rs.flatten = sns l
  | [], _ => ⟨[], fun x hx => (by cases hx), rfl, rfl⟩
  | r :: rs, h => by
    obtain ⟨p, hp, rfl⟩ := sh_s8 (h r (List.mem_cons_self ..))
    obtain ⟨l, h0, h1, h2⟩ := sh_s8s (rs := rs) fun r hr => h r (List.mem_cons_of_mem _ hr)
    refine ⟨p :: l, fun x hx => ?_, by simp [h1], by simp [h2, rows]⟩
    rcases List.mem_cons.1 hx with rfl | hx
    · exact hp
    · exact h0 x hx

set_option maxRecDepth 100000 in
theorem arg_s8s {H : Type} {enc : TypeId × Value → H} {W : World} {base b : Nat} {sp : Nat → Bool} {held : Bool} {v : Value} {d : DataW H} {ps : List MemPlace}
    (hv : Value.okWide Tryz.prog W .any b 22 v) (h : DataW.Trod enc Tryz.prog W base sp held 22 v d ps) (hd : Rows.uptoBulk d ≤ 1048576) : ∃ l : List Sn, (l.length ≤ 1048576 ∧ ∀ p ∈ l, p.ok) ∧ Rep (RS W) W (snsD l) v := by
  obtain ⟨a, n, c, rfl⟩ := okWide_slice Tryz.underlying22 hv
  obtain ⟨fuel, h⟩ := h
  obtain ⟨ds, h1, h2, h3⟩ := reps_of_trod (N := 1048576) bulk 8 22 fuel [.slice a n c] (d, ps) (by kernel_rfl) h hd
  obtain ⟨rs, rfl, hl, hr⟩ := h3.toSl Tryz.underlying22
  obtain ⟨l, e0, e1, e2⟩ := sh_s8s hr
  refine ⟨l, ⟨by omega, e0⟩, ?_⟩
  show Rep (RS W) W (.sl l.length (sns l)) _
  rw [← e1, ← e2]
  exact h1.2 0 _ _ rfl rfl
end Go.Proofs.YtijkmdpdedagdaaGreatDoor
