/-
  MATRIX: descriptions as arguments. Own work.
-/
import Derived.Test.YtglbjagibldkgaaGreatDoorSj
import Derived.Test.YtglbjagibldkgaaGreatDoorSh
set_option linter.unusedVariables false
set_option linter.unusedSimpArgs false
namespace Go.Pi
open Go
theorem Sh.toBoolM {P : Program} {N : Nat} {t : TypeId} {ds : List D} (h : Sh P N t ds) (hu : P.underlying t = some .bool) : ∃ b, ds = [.bool b] := by
  cases h with
  | int k' n hu' hn => rw [hu] at hu'; cases hu'
  | bool b hu' => exact ⟨b, rfl⟩
  | str s hu' => rw [hu] at hu'; cases hu'
  | sl rs hu' => rw [hu] at hu'; cases hu'
  | arr rs hu' => rw [hu] at hu'; cases hu'
  | struct rs hu' => rw [hu] at hu'; cases hu'
end Go.Pi
namespace Go.Proofs.YtglbjagibldkgaaGreatDoor
open Go Go.Pi Go.ChangeShapes Go.WideShapes Go.ChangeAt Go.RowKit

theorem i8_wf {n : Int} (h : (Lit.int .i8 n).wf = true) : -128 ≤ n ∧ n ≤ 127 := by
  simp only [Lit.wf, Bool.and_eq_true, decide_eq_true_eq] at h
  rw [show IntKind.i8.min = -128 by decide, show IntKind.i8.max = 127 by decide] at h
  exact h
theorem u8_wf {n : Int} (h : (Lit.int .u8 n).wf = true) : 0 ≤ n ∧ n ≤ 255 := by
  simp only [Lit.wf, Bool.and_eq_true, decide_eq_true_eq] at h
  rw [show IntKind.u8.min = 0 by decide, show IntKind.u8.max = 255 by decide] at h
  exact h
theorem sh_i8s {N : Nat} : ∀ {rs : List (List D)}, (∀ r ∈ rs, Sh Tryz.prog N 22 r) → ∃ l : List Int, (∀ z ∈ l, -128 ≤ z ∧ z ≤ 127) ∧ rs.length = l.length ∧ rs.flatten = l.map fun z => .int .i8 z
  | [], _ => ⟨[], fun x hx => (by cases hx), rfl, rfl⟩
  | r :: rs, h => by
    obtain ⟨z, rfl, hz⟩ := Sh.toInt (h r (List.mem_cons_self ..)) Tryz.underlying22
    obtain ⟨l, h0, h1, h2⟩ := sh_i8s (rs := rs) fun r hr => h r (List.mem_cons_of_mem _ hr)
    refine ⟨z :: l, fun x hx => ?_, by simp [h1], by simp [h2]⟩
    rcases List.mem_cons.1 hx with rfl | hx
    · exact i8_wf hz
    · exact h0 x hx
theorem i8s_lst {l : List Int} {n : Nat} (h : l.length = n) : (l.map fun z => D.int .i8 z) = lst n fun k => .int .i8 (l.getD k 0) := by
  apply List.ext_getElem?
  intro i
  rw [List.getElem?_map]
  by_cases hi : i < n
  · rw [lst_at _ hi, List.getD_eq_getElem?_getD, List.getElem?_eq_getElem (by omega)]; rfl
  · rw [List.getElem?_eq_none (by omega), List.getElem?_eq_none (by rw [lst_len]; omega)]; rfl
set_option maxRecDepth 100000 in
theorem arg_grid {H : Type} {enc : TypeId × Value → H} {W : World} {base b : Nat} {sp : Nat → Bool} {held : Bool} {v : Value} {d : DataW H} {ps : List MemPlace}
    (hv : Value.okWide Tryz.prog W .any b 25 v) (h : DataW.Trod enc Tryz.prog W base sp held 25 v d ps) (hd : Rows.uptoBulk d ≤ 1048576) :
    ∃ g : Grd, g.ok ∧ Rep (RS W) W (.agg g.D) v := by
  obtain ⟨cs, rfl⟩ : ∃ cs, v = .agg cs := by
    simp only [Value.okWide, Tryz.underlying25] at hv
    obtain ⟨cs, h1, _⟩ := hv
    exact ⟨cs, h1⟩
  obtain ⟨fuel, h⟩ := h
  obtain ⟨ds, h1, h2, h3⟩ := reps_of_trod (N := 1048576) bulk 8 25 fuel cs.toList (d, ps) (by kernel_rfl) h hd
  obtain ⟨rs, e, hl, hr⟩ := h3.toStruct Tryz.underlying25
  match rs, hl with
  | [r0, r1, r2, r3], _ =>
    obtain ⟨x, rfl, hx⟩ := Sh.toInt (hr 0 _ r0 rfl rfl) Tryz.underlying5
    obtain ⟨y, rfl, hy⟩ := Sh.toInt (hr 1 _ r1 rfl rfl) Tryz.underlying5
    obtain ⟨z, rfl⟩ := Sh.toBoolM (hr 2 _ r2 rfl rfl) Tryz.underlying4
    obtain ⟨rs3, e3, hl3, hr3⟩ := Sh.toArr (hr 3 _ r3 rfl rfl) Tryz.underlying23
    obtain ⟨l, l1, l2, l3⟩ := sh_i8s hr3
    have hx' := u8_wf hx
    have hy' := u8_wf hy
    refine ⟨⟨x.toNat, y.toNat, z, fun k => l.getD k 0⟩, ⟨by show x.toNat < 256; omega, by show y.toNat < 256; omega, fun k hk => ?_⟩, ?_⟩
    · have hm : l.getD k 0 ∈ l := by rw [List.getD_eq_getElem?_getD, List.getElem?_eq_getElem (by omega)]; exact List.getElem_mem _
      exact l1 _ hm
    · have e2 : ds = Grd.D ⟨x.toNat, y.toNat, z, fun k => l.getD k 0⟩ := by
        rw [e, e3, l3, i8s_lst (n := 16) (by omega)]
        unfold Grd.D
        simp only [Int.toNat_of_nonneg hx'.1, Int.toNat_of_nonneg hy'.1]
        rfl
      rw [← e2]
      exact .agg ds cs.toList h1.1 h2 h1.2
end Go.Proofs.YtglbjagibldkgaaGreatDoor
