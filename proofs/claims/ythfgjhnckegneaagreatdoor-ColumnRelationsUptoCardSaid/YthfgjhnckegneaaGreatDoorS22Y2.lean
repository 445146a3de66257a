/-
  SEAT 22: what is read at the types of the laws' arguments. Own work.
-/
import Derived.Test.YthfgjhnckegneaaGreatDoorS22Y
namespace Go.Pi
open Go

variable {P : Program} {N : Nat} {t : TypeId} {ds : List D}
theorem Sh.toInt {k : IntKind} (h : Sh P N t ds) (hu : P.underlying t = some (.int k)) : ∃ n, ds = [.int k n] ∧ (Lit.int k n).wf = true := by
  cases h with
  | int k' n hu' hn => rw [hu] at hu'; cases hu'; exact ⟨n, rfl, hn⟩
  | bool b hu' => rw [hu] at hu'; cases hu'
  | str s hu' => rw [hu] at hu'; cases hu'
  | sl rs hu' => rw [hu] at hu'; cases hu'
  | arr rs hu' => rw [hu] at hu'; cases hu'
  | struct rs hu' => rw [hu] at hu'; cases hu'
theorem Sh.toSl {e : TypeId} (h : Sh P N t ds) (hu : P.underlying t = some (.slice e)) : ∃ rs : List (List D), ds = [.sl rs.length rs.flatten] ∧ rs.length ≤ N ∧ ∀ r ∈ rs, Sh P N e r := by
  cases h with
  | int k' n hu' hn => rw [hu] at hu'; cases hu'
  | bool b hu' => rw [hu] at hu'; cases hu'
  | str s hu' => rw [hu] at hu'; cases hu'
  | sl rs hu' hl h hc => rw [hu] at hu'; cases hu'; exact ⟨rs, rfl, hl, h⟩
  | arr rs hu' => rw [hu] at hu'; cases hu'
  | struct rs hu' => rw [hu] at hu'; cases hu'
theorem Sh.toArr {e : TypeId} {n : Nat} (h : Sh P N t ds) (hu : P.underlying t = some (.array n e)) : ∃ rs : List (List D), ds = rs.flatten ∧ rs.length = n ∧ ∀ r ∈ rs, Sh P N e r := by
  cases h with
  | int k' n hu' hn => rw [hu] at hu'; cases hu'
  | bool b hu' => rw [hu] at hu'; cases hu'
  | str s hu' => rw [hu] at hu'; cases hu'
  | sl rs hu' hl h hc => rw [hu] at hu'; cases hu'
  | arr rs hu' hl h hc => rw [hu] at hu'; cases hu'; exact ⟨rs, rfl, hl, h⟩
  | struct rs hu' => rw [hu] at hu'; cases hu'
theorem Sh.toStruct {fs : Array Field} (h : Sh P N t ds) (hu : P.underlying t = some (.struct fs)) : ∃ rs : List (List D), ds = rs.flatten ∧ rs.length = fs.size ∧ ∀ (i : Nat) (f : Field) (r : List D), fs[i]? = some f → rs[i]? = some r → Sh P N f.type r := by
  cases h with
  | int k' n hu' hn => rw [hu] at hu'; cases hu'
  | bool b hu' => rw [hu] at hu'; cases hu'
  | str s hu' => rw [hu] at hu'; cases hu'
  | sl rs hu' hl h hc => rw [hu] at hu'; cases hu'
  | arr rs hu' hl h hc => rw [hu] at hu'; cases hu'
  | struct rs hu' hl h hc => rw [hu] at hu'; cases hu'; exact ⟨rs, rfl, hl, h⟩
end Go.Pi
namespace Go.Proofs.YthfgjhnckegneaaGreatDoor
open Go Go.Pi Go.ChangeShapes Go.WideShapes Go.ChangeAt Go.RowKit

/-- a byte -/
theorem sh_u8 {N : Nat} {ds : List D} (h : Sh Tryz.prog N 5 ds) : ∃ n, ds = [.int .u8 n] ∧ isByte n := by
  obtain ⟨n, rfl, hn⟩ := h.toInt Tryz.underlying5
  refine ⟨n, rfl, ?_⟩
  simp only [Lit.wf, Bool.and_eq_true, decide_eq_true_eq] at hn
  have e1 : IntKind.u8.min = 0 := by decide
  have e2 : IntKind.u8.max = 255 := by decide
  rw [e1, e2] at hn
  exact ⟨hn.1, by omega⟩

theorem sh_bytes {N : Nat} : ∀ {rs : List (List D)}, (∀ r ∈ rs, Sh Tryz.prog N 5 r) → ∃ us : List Int, rs.length = us.length ∧ rs.flatten = ints .u8 us ∧ ∀ x ∈ us, isByte x
  | [], _ => ⟨[], rfl, rfl, fun x hx => by cases hx⟩
  | r :: rs, h => by
    obtain ⟨n, rfl, hn⟩ := sh_u8 (h r (List.mem_cons_self ..))
    obtain ⟨us, h1, h2, h3⟩ := sh_bytes (rs := rs) fun r hr => h r (List.mem_cons_of_mem _ hr)
    refine ⟨n :: us, by simp [h1], by simp [h2, ints], fun x hx => ?_⟩
    rcases List.mem_cons.1 hx with rfl | hx
    · exact hn
    · exact h3 x hx

/-- two bytes -/
theorem sh_pair {N : Nat} {ds : List D} (h : Sh Tryz.prog N 23 ds) : ∃ a b, ds = [.int .u8 a, .int .u8 b] ∧ isByte a ∧ isByte b := by
  obtain ⟨rs, rfl, hl, h⟩ := h.toArr Tryz.underlying23
  obtain ⟨us, h1, h2, h3⟩ := sh_bytes h
  match us, h1.symm.trans hl with
  | [a, b], _ => exact ⟨a, b, h2, h3 a (by simp), h3 b (by simp)⟩

/-- WHAT IS READ AT THE TYPE OF PLANS IS A PLAN -/
theorem sh_plan {N : Nat} {ds : List D} (hN : N ≤ 140737488355327) (h : Sh Tryz.prog N 26 ds) : ∃ p : Pl, p.ok ∧ p.d = .agg ds := by
  obtain ⟨rs, rfl, hl, h⟩ := h.toStruct Tryz.underlying26
  match rs, hl with
  | [r0, r1], _ =>
    have h0 := h 0 _ r0 rfl rfl
    have h1 := h 1 _ r1 rfl rfl
    obtain ⟨qs, rfl, hq, hq'⟩ := Sh.toSl h0 Tryz.underlying22
    obtain ⟨us, u1, u2, u3⟩ := sh_bytes hq'
    obtain ⟨zs, rfl, ha, ha'⟩ := Sh.toArr h1 Tryz.underlying24
    match zs, ha with
    | [x0, x1, x2, x3], _ =>
      obtain ⟨a0, b0, rfl, p0, q0⟩ := sh_pair (ha' x0 (by simp))
      obtain ⟨a1, b1, rfl, p1, q1⟩ := sh_pair (ha' x1 (by simp))
      obtain ⟨a2, b2, rfl, p2, q2⟩ := sh_pair (ha' x2 (by simp))
      obtain ⟨a3, b3, rfl, p3, q3⟩ := sh_pair (ha' x3 (by simp))
      refine ⟨⟨us, a0, b0, a1, b1, a2, b2, a3, b3⟩, ⟨by show us.length ≤ _; omega, u3, p0, q0, p1, q1, p2, q2, p3, q3⟩, ?_⟩
      simp [Pl.d, u1, u2]

set_option maxRecDepth 100000 in
/-- an argument of that type -/
theorem arg_plan {H : Type} {enc : TypeId × Value → H} {W : World} {base b : Nat} {sp : Nat → Bool} {held : Bool} {v : Value} {d : DataW H} {ps : List MemPlace}
    (hv : Value.okWide Tryz.prog W .any b 26 v) (h : DataW.Trod enc Tryz.prog W base sp held 26 v d ps) (hd : Rows.uptoBulk d ≤ 1048576) : ∃ p : Pl, p.ok ∧ Rep (RS W) W p.d v := by
  obtain ⟨cs, rfl, _⟩ := okWide_struct Tryz.underlying26 hv
  obtain ⟨fuel, h⟩ := h
  obtain ⟨ds, h1, h2, h3⟩ := reps_of_trod (N := 1048576) bulk 8 26 fuel cs.toList (d, ps) (by kernel_rfl) h hd
  obtain ⟨p, hp, e⟩ := sh_plan (by omega) h3
  refine ⟨p, hp, ?_⟩
  rw [e]
  exact .agg ds cs.toList h1.1 h2 h1.2

end Go.Proofs.YthfgjhnckegneaaGreatDoor
