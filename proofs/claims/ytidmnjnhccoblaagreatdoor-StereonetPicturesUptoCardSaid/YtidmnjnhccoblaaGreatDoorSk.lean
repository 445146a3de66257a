/-
  STEREONET: nets, vectors, lists of vectors as arguments. Own work.
-/
import Derived.Test.YtidmnjnhccoblaaGreatDoorSj
import Derived.Test.YtidmnjnhccoblaaGreatDoorSg
set_option linter.unusedVariables false
set_option linter.unusedSimpArgs false
namespace Go.Proofs.YtidmnjnhccoblaaGreatDoor
open Go Go.Pi Go.ChangeShapes Go.WideShapes Go.ChangeAt Go.RowKit Go.Ne

theorem i64_wf {n : Int} (h : (Lit.int .i64 n).wf = true) : inR .i64 n := by
  simp only [Lit.wf, Bool.and_eq_true, decide_eq_true_eq] at h
  rw [show IntKind.i64.min = -9223372036854775808 by decide, show IntKind.i64.max = 9223372036854775807 by decide] at h
  rw [inR_i64]; omega
theorem u8_wf {n : Int} (h : (Lit.int .u8 n).wf = true) : 0 ≤ n ∧ n ≤ 255 := by
  simp only [Lit.wf, Bool.and_eq_true, decide_eq_true_eq] at h
  rw [show IntKind.u8.min = 0 by decide, show IntKind.u8.max = 255 by decide] at h
  exact h
set_option maxRecDepth 100000 in
theorem arg_net {H : Type} {enc : TypeId × Value → H} {W : World} {base b : Nat} {sp : Nat → Bool} {held : Bool} {v : Value} {d : DataW H} {ps : List MemPlace}
    (hv : Value.okWide Tryz.prog W .any b 23 v) (h : DataW.Trod enc Tryz.prog W base sp held 23 v d ps) (hd : Rows.uptoBulk d ≤ 1048576) :
    ∃ p : Int × Int, (inR .i64 p.1 ∧ inR .i64 p.2) ∧ Rep (RS W) W (netD p.1 p.2) v := by
  obtain ⟨cs, rfl⟩ : ∃ cs, v = .agg cs := by
    simp only [Value.okWide, Tryz.underlying23] at hv
    obtain ⟨cs, h1, _⟩ := hv
    exact ⟨cs, h1⟩
  obtain ⟨fuel, h⟩ := h
  obtain ⟨ds, h1, h2, h3⟩ := reps_of_trod (N := 1048576) bulk 8 23 fuel cs.toList (d, ps) (by kernel_rfl) h hd
  obtain ⟨rs, e, hl, hr⟩ := h3.toStruct Tryz.underlying23
  match rs, hl with
  | [r0, r1], _ =>
    obtain ⟨x, rfl, hx⟩ := Sh.toInt (hr 0 _ r0 rfl rfl) Tryz.underlying3
    obtain ⟨y, rfl, hy⟩ := Sh.toInt (hr 1 _ r1 rfl rfl) Tryz.underlying3
    refine ⟨(x, y), ⟨i64_wf hx, i64_wf hy⟩, ?_⟩
    have e2 : ds = [.int .i64 x, .int .i64 y] := e
    show Rep _ _ (.agg [.int .i64 x, .int .i64 y]) _
    rw [← e2]
    exact .agg ds cs.toList h1.1 h2 h1.2
theorem sh_vec {N : Nat} {ds : List D} (h : Sh Tryz.prog N 26 ds) : ∃ v : S3, (v.1.length ≤ N ∧ v.2.1.length ≤ N ∧ v.2.2.length ≤ N) ∧ ds = svD v := by
  obtain ⟨rs, rfl, hl, h⟩ := h.toStruct Tryz.underlying26
  match rs, hl with
  | [r0, r1, r2], _ =>
    obtain ⟨a, rfl, ha⟩ := Sh.toStr (h 0 _ r0 rfl rfl) Tryz.underlying24
    obtain ⟨b, rfl, hb⟩ := Sh.toStr (h 1 _ r1 rfl rfl) Tryz.underlying24
    obtain ⟨c, rfl, hc⟩ := Sh.toStr (h 2 _ r2 rfl rfl) Tryz.underlying24
    exact ⟨(a, b, c), ⟨ha, hb, hc⟩, rfl⟩
theorem sh_vecs {N : Nat} : ∀ {rs : List (List D)}, (∀ r ∈ rs, Sh Tryz.prog N 26 r) → ∃ l : List S3, (∀ v ∈ l, v.1.length ≤ N ∧ v.2.1.length ≤ N ∧ v.2.2.length ≤ N) ∧ rs.length = l.length ∧ rs.flatten = svs l
  | [], _ => ⟨[], fun x hx => (by cases hx), rfl, rfl⟩
  | r :: rs, h => by
    obtain ⟨p, hp, rfl⟩ := sh_vec (h r (List.mem_cons_self ..))
    obtain ⟨l, h0, h1, h2⟩ := sh_vecs (rs := rs) fun r hr => h r (List.mem_cons_of_mem _ hr)
    refine ⟨p :: l, fun x hx => ?_, by simp [h1], by simp [h2, rows]⟩
    rcases List.mem_cons.1 hx with rfl | hx
    · exact hp
    · exact h0 x hx
set_option maxRecDepth 100000 in
theorem arg_vecs {H : Type} {enc : TypeId × Value → H} {W : World} {base b : Nat} {sp : Nat → Bool} {held : Bool} {v : Value} {d : DataW H} {ps : List MemPlace}
    (hv : Value.okWide Tryz.prog W .any b 46 v) (h : DataW.Trod enc Tryz.prog W base sp held 46 v d ps) (hd : Rows.uptoBulk d ≤ 1048576) :
    ∃ l : List S3, (l.length ≤ 1048576 ∧ ∀ x ∈ l, x.1.length ≤ 1048576 ∧ x.2.1.length ≤ 1048576 ∧ x.2.2.length ≤ 1048576) ∧ Rep (RS W) W (lS l) v := by
  obtain ⟨a, n, c, rfl⟩ := okWide_slice Tryz.underlying46 hv
  obtain ⟨fuel, h⟩ := h
  obtain ⟨ds, h1, h2, h3⟩ := reps_of_trod (N := 1048576) bulk 8 46 fuel [.slice a n c] (d, ps) (by kernel_rfl) h hd
  obtain ⟨rs, rfl, hl, hr⟩ := h3.toSl Tryz.underlying46
  obtain ⟨l, e0, e1, e2⟩ := sh_vecs hr
  refine ⟨l, ⟨by omega, e0⟩, ?_⟩
  show Rep _ _ (.sl l.length (svs l)) _
  rw [← e1, ← e2]
  exact h1.2 0 _ _ rfl rfl
end Go.Proofs.YtidmnjnhccoblaaGreatDoor
