/-
  POLYLINE: lists of points as arguments. Own work.
-/
import Derived.Test.YtcadmboomebdoaaGreatDoorSh
import Derived.Test.YtcadmboomebdoaaGreatDoorSg
namespace Go.Proofs.YtcadmboomebdoaaGreatDoor
open Go Go.Pi Go.ChangeShapes Go.WideShapes Go.ChangeAt Go.RowKit

theorem sh_sp {N : Nat} {ds : List D} (h : Sh Tryz.prog N 35 ds) : ∃ p : SP, ds = spD p := by
  obtain ⟨rs, e, hl, hr⟩ := h.toStruct Tryz.underlying35
  match rs, hl with
  | [r0, r1], _ =>
    obtain ⟨x, rfl, hx⟩ := Sh.toStr (hr 0 _ r0 rfl rfl) Tryz.underlying33
    obtain ⟨y, rfl, hy⟩ := Sh.toStr (hr 1 _ r1 rfl rfl) Tryz.underlying33
    exact ⟨(x, y), e⟩
theorem sh_sps {N : Nat} : ∀ {rs : List (List D)}, (∀ r ∈ rs, Sh Tryz.prog N 35 r) → ∃ l : List SP, rs.length = l.length ∧ rs.flatten = sps l
  | [], _ => ⟨[], rfl, rfl⟩
  | r :: rs, h => by
    obtain ⟨p, rfl⟩ := sh_sp (h r (List.mem_cons_self ..))
    obtain ⟨l, h1, h2⟩ := sh_sps (rs := rs) fun r hr => h r (List.mem_cons_of_mem _ hr)
    exact ⟨p :: l, by simp [h1], by simp [h2, rows]⟩

set_option maxRecDepth 100000 in
theorem arg_sps {H : Type} {enc : TypeId × Value → H} {W : World} {base b : Nat} {sp : Nat → Bool} {held : Bool} {v : Value} {d : DataW H} {ps : List MemPlace}
    (hv : Value.okWide Tryz.prog W .any b 24 v) (h : DataW.Trod enc Tryz.prog W base sp held 24 v d ps) (hd : Rows.uptoBulk d ≤ 1048576) : ∃ l : List SP, l.length ≤ 1048576 ∧ Rep (RS W) W (chS l) v := by
  obtain ⟨a, n, c, rfl⟩ := okWide_slice Tryz.underlying24 hv
  obtain ⟨fuel, h⟩ := h
  obtain ⟨ds, h1, h2, h3⟩ := reps_of_trod (N := 1048576) bulk 8 24 fuel [.slice a n c] (d, ps) (by kernel_rfl) h hd
  obtain ⟨rs, rfl, hl, hr⟩ := h3.toSl Tryz.underlying24
  obtain ⟨l, e1, e2⟩ := sh_sps hr
  refine ⟨l, by omega, ?_⟩
  rw [show chS l = D.sl rs.length rs.flatten by rw [e1, e2]]
  exact h1.2 0 _ _ rfl rfl
end Go.Proofs.YtcadmboomebdoaaGreatDoor
