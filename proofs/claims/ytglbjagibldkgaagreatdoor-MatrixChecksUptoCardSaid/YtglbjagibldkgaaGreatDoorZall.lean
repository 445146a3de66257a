/-
  MatrixDeterminants, the second form, as a card: for every input within the row's bound the law returns true and leaves its arguments alone. Own work.
-/
import Derived.Test.YtglbjagibldkgaaGreatDoorSk
import Derived.Test.YtglbjagibldkgaaGreatDoorSi
set_option linter.unusedVariables false
set_option linter.unusedSimpArgs false
namespace Go.Proofs.YtglbjagibldkgaaGreatDoor
open Go Go.Pi Go.ChangeShapes Go.WideShapes Go.ChangeAt Go.RowKit

set_option maxRecDepth 100000 in
theorem matrixDeterminants_calls {H : Type} {enc : TypeId × Value → H} {W : World} {base : Nat} {args : Array Value} {ds gs : List (DataW H)} {before : List MemPlace}
    (hval : ∀ (j : Nat) t v, Tryz.f7.params[j]? = some t → args[j]? = some v → Value.okWide Tryz.prog W .any base t v)
    (hW : DataW.Whole enc Tryz.prog Tryz.f7.params.toList Rows.matrixDeterminantsSpec.vars false W args.toList ds gs before) (hL : Tryz.L W) (hk : Rows.uptoSmall H (ds ++ gs) = true) :
    Calls Tryz.prog 7 args W fun e W' => ∃ v, e = .returned v ∧ Rows.matrixDeterminantsSpec.post enc Tryz.prog Tryz.f7 false true false false W args v W' := by
  have hW' := hW
  obtain ⟨p, q, hA0, hV, rfl, hfz, hnd⟩ := hW
  have hA : DataW.TrodAll enc Tryz.prog W 0 (fun _ => true) true Tryz.f7.params.toList args.toList ds p := hA0
  rw [Tryz.params7] at hA hval
  obtain ⟨v0, v1, d0, d1, p0, p1, rfl, rfl, rfl, h0, h1⟩ := trodAll_two hA
  obtain ⟨rfl, rfl⟩ := trodVars_none hV
  clear hA0
  simp only [List.append_nil] at hW' hk
  obtain ⟨g0, hp0, hr0⟩ := arg_grid (hval 0 25 v0 rfl rfl) h0 (bound hk d0 (by simp))
  obtain ⟨g1, hp1, hr1⟩ := arg_grid (hval 1 25 v1 rfl rfl) h1 (bound hk d1 (by simp))
  have hlt : ∀ x ∈ p0 ++ p1, x.block < W.heap.size := fun x hx => hW'.lt x hx
  have walk := (Tryz.ldets g0 g1 hp0 hp1).2 (RS W) W [v0, v1] (fun b j h => h) hL (Reps.cons hr0 (Reps.cons hr1 .nil))
  refine walk.mono fun e W' ⟨v, he, hb, hres⟩ => ?_
  subst he
  have hres' : Rep _ W' (.bool true) v := hres
  cases hres'
  exact ⟨_, rfl, post_of_below (pa := p0 ++ p1) (pv := []) hW' (fun _ _ _ => trodAll_cons_mk (shut_bool Tryz.underlying4 _) trodAll_mk0)
    (fun sp hsp => trodAll_mk2 (WideElems.Trod_stays laidOut (by kernel_rfl) (of_decide_eq_true (by kernel_rfl)) h0 (fun x hx => hb.same (hlt x (List.mem_append_left _ hx))) (fun x hx => hsp x (List.mem_append_left _ hx)))
      (WideElems.Trod_stays laidOut (by kernel_rfl) (of_decide_eq_true (by kernel_rfl)) h1 (fun x hx => hb.same (hlt x (List.mem_append_right _ hx))) (fun x hx => hsp x (List.mem_append_right _ hx))))
    (fun _ _ => rfl) (by simp) hb (ok_one (by kernel_rfl) rfl (okWide_bool_mk Tryz.underlying4 _))⟩

noncomputable def matrixDeterminants_wit : Array Value := #[.agg #[.int .u8 0, .int .u8 0, .bool false, .int .i8 0, .int .i8 0, .int .i8 0, .int .i8 0, .int .i8 0, .int .i8 0, .int .i8 0, .int .i8 0, .int .i8 0, .int .i8 0, .int .i8 0, .int .i8 0, .int .i8 0, .int .i8 0, .int .i8 0, .int .i8 0], .agg #[.int .u8 0, .int .u8 0, .bool false, .int .i8 0, .int .i8 0, .int .i8 0, .int .i8 0, .int .i8 0, .int .i8 0, .int .i8 0, .int .i8 0, .int .i8 0, .int .i8 0, .int .i8 0, .int .i8 0, .int .i8 0, .int .i8 0, .int .i8 0, .int .i8 0]]

theorem matrixDeterminants_witness (os : Os) {H : Type} (enc : TypeId × Value → H) :
    (Rows.OpenSpec.upto Rows.matrixDeterminantsSpec).preRow enc Tryz.prog Tryz.f7 Rows.matrixDeterminantsUptoRow.domain false Rows.matrixDeterminantsUptoRow.laid ((doorWorld os).forCall (fun _ _ => 0) ⟨#[], matrixDeterminants_wit, []⟩).memory matrixDeterminants_wit := by
  have hw : (DataW.whole enc Tryz.prog ((doorWorld os).forCall (fun _ _ => 0) ⟨#[], matrixDeterminants_wit, []⟩).memory Tryz.f7.params.toList Rows.matrixDeterminantsSpec.vars false matrixDeterminants_wit.toList 8).map (fun x => (x.1, x.2.1)) =
      some ([.agg [.lit (.int .u8 0), .lit (.int .u8 0), .lit (.bool false), .agg [.lit (.int .i8 0), .lit (.int .i8 0), .lit (.int .i8 0), .lit (.int .i8 0), .lit (.int .i8 0), .lit (.int .i8 0), .lit (.int .i8 0), .lit (.int .i8 0), .lit (.int .i8 0), .lit (.int .i8 0), .lit (.int .i8 0), .lit (.int .i8 0), .lit (.int .i8 0), .lit (.int .i8 0), .lit (.int .i8 0), .lit (.int .i8 0)]], .agg [.lit (.int .u8 0), .lit (.int .u8 0), .lit (.bool false), .agg [.lit (.int .i8 0), .lit (.int .i8 0), .lit (.int .i8 0), .lit (.int .i8 0), .lit (.int .i8 0), .lit (.int .i8 0), .lit (.int .i8 0), .lit (.int .i8 0), .lit (.int .i8 0), .lit (.int .i8 0), .lit (.int .i8 0), .lit (.int .i8 0), .lit (.int .i8 0), .lit (.int .i8 0), .lit (.int .i8 0), .lit (.int .i8 0)]]], []) := by kernel_rfl
  obtain ⟨⟨x1, x2, x3⟩, hx, hx1⟩ := Option.map_eq_some_iff.1 hw
  simp only [Prod.mk.injEq] at hx1
  obtain ⟨rfl, rfl⟩ := hx1
  exact OpenSpec.preRow_of_cond 8 hx (by kernel_rfl) (fun k hk => by cases hk; kernel_rfl) (by kernel_rfl) (door_met os _)

set_option maxRecDepth 100000 in
theorem matrixDeterminants_lifted (os : Os) (started : os.Started) (H : Type) (enc : TypeId × Value → H) (F : Stop.Interp) :
    ReturnsInHanded {} Tryz.checked os 7 .any ((Rows.OpenSpec.upto Rows.matrixDeterminantsSpec).preRow enc Tryz.prog Tryz.f7 Rows.matrixDeterminantsUptoRow.domain false Rows.matrixDeterminantsUptoRow.laid) (((Rows.OpenSpec.upto Rows.matrixDeterminantsSpec).at F).post enc Tryz.prog Tryz.f7 false true false false) := by
  refine returnsInHanded_of_row (C := Tryz.checked) (s := Rows.OpenSpec.upto Rows.matrixDeterminantsSpec) own started (by kernel_rfl) Tryz.func7
    (witness_row_atRef (enc := enc) (C := Tryz.checked) false (doorWorld os) matrixDeterminants_wit rfl (by kernel_rfl) (by kernel_rfl) (by kernel_rfl) (matrixDeterminants_witness os enc)) ?_
  intro W base args ds gs before hval hW _ hcond _ hL _ _
  exact matrixDeterminants_calls hval hW (ofLaid hL) (hcond _ rfl)

theorem matrixDeterminants_said : Rows.MatrixDeterminantsUptoSaid :=
  OpenClaim.holds_of_cond 7 Tryz.f7 rfl rfl rfl rfl rfl rfl rfl ⟨rfl, rfl, rfl, rfl, rfl⟩ rfl rfl rfl rfl rfl (by kernel_rfl) Tryz.func7 (by kernel_rfl)
    (of_decide_eq_true (by kernel_rfl)) (by unfold Func.isWrapper; first | (rw [if_pos (by decide +kernel)]; kernel_rfl) | (rw [if_neg (by decide +kernel)]; exact ⟨rfl, rfl⟩))
    (fun os started H enc _ F => by rw [OpenClaim.pre_eq_preRow]; exact matrixDeterminants_lifted os started H enc F)

/-- No parameter wants a stand-in; the program's own looks are off. -/
theorem matrixDeterminants_plain (f : FuncId) (fn : Func) (hf : Tryz.pinned.checked.prog.funcNamed "klippe/klippelaw06.MatrixDeterminants" = some f) (hfn : Tryz.pinned.checked.prog.funcs[f]? = some fn) :
    true = Tryz.pinned.checked.prog.looks [] ∧ ∀ (j : Nat) t, fn.params[j]? = some t → Tryz.pinned.checked.prog.wantsStandIn t = false := by
  obtain rfl : f = 7 := Option.some.inj ((show Tryz.prog.funcNamed "klippe/klippelaw06.MatrixDeterminants" = some 7 by kernel_rfl).symm.trans hf) |>.symm
  obtain rfl : fn = Tryz.f7 := (Option.some.inj (Tryz.func7.symm.trans hfn)).symm
  refine ⟨by kernel_rfl, fun j t ht => ?_⟩
  rw [Tryz.params7] at ht
  obtain rfl : t = 25 := by simpa using Array.mem_of_getElem? ht
  exact (show Tryz.prog.wantsStandIn 25 = false by kernel_rfl)

theorem matrixDeterminants_card : Rows.MatrixDeterminantsUptoCardSaid :=
  Claim7.holds_tied_plain_at .later [] _ _ _ _ matrixDeterminants_said (fun _ h => by cases h) (by kernel_rfl) (fun _ h => by cases h) matrixDeterminantsUpto_row_tie rfl ⟨rfl, rfl⟩ (by kernel_rfl) rfl matrixDeterminants_plain (by kernel_rfl)
#print axioms matrixDeterminants_card
end Go.Proofs.YtglbjagibldkgaaGreatDoor

/-
  MatrixApplies, the second form, as a card: for every input within the row's bound the law returns true and leaves its arguments alone. Own work.
-/
namespace Go.Proofs.YtglbjagibldkgaaGreatDoor
open Go Go.Pi Go.ChangeShapes Go.WideShapes Go.ChangeAt Go.RowKit

set_option maxRecDepth 100000 in
theorem matrixApplies_calls {H : Type} {enc : TypeId × Value → H} {W : World} {base : Nat} {args : Array Value} {ds gs : List (DataW H)} {before : List MemPlace}
    (hval : ∀ (j : Nat) t v, Tryz.f5.params[j]? = some t → args[j]? = some v → Value.okWide Tryz.prog W .any base t v)
    (hW : DataW.Whole enc Tryz.prog Tryz.f5.params.toList Rows.matrixAppliesSpec.vars false W args.toList ds gs before) (hL : Tryz.L W) (hk : Rows.uptoSmall H (ds ++ gs) = true) :
    Calls Tryz.prog 5 args W fun e W' => ∃ v, e = .returned v ∧ Rows.matrixAppliesSpec.post enc Tryz.prog Tryz.f5 false true false false W args v W' := by
  have hW' := hW
  obtain ⟨p, q, hA0, hV, rfl, hfz, hnd⟩ := hW
  have hA : DataW.TrodAll enc Tryz.prog W 0 (fun _ => true) true Tryz.f5.params.toList args.toList ds p := hA0
  rw [Tryz.params5] at hA hval
  obtain ⟨v0, v1, d0, d1, p0, p1, rfl, rfl, rfl, h0, h1⟩ := trodAll_two hA
  obtain ⟨rfl, rfl⟩ := trodVars_none hV
  clear hA0
  simp only [List.append_nil] at hW' hk
  obtain ⟨g0, hp0, hr0⟩ := arg_grid (hval 0 25 v0 rfl rfl) h0 (bound hk d0 (by simp))
  obtain ⟨l1, hp1, hr1⟩ := arg_txs (hval 1 49 v1 rfl rfl) h1 (bound hk d1 (by simp))
  have hlt : ∀ x ∈ p0 ++ p1, x.block < W.heap.size := fun x hx => hW'.lt x hx
  have walk := (Tryz.lapplies g0 l1 hp0 hp1.1 hp1.2).2 (RS W) W [v0, v1] (fun b j h => h) hL (Reps.cons hr0 (Reps.cons hr1 .nil))
  refine walk.mono fun e W' ⟨v, he, hb, hres⟩ => ?_
  subst he
  have hres' : Rep _ W' (.bool true) v := hres
  cases hres'
  exact ⟨_, rfl, post_of_below (pa := p0 ++ p1) (pv := []) hW' (fun _ _ _ => trodAll_cons_mk (shut_bool Tryz.underlying4 _) trodAll_mk0)
    (fun sp hsp => trodAll_mk2 (WideElems.Trod_stays laidOut (by kernel_rfl) (of_decide_eq_true (by kernel_rfl)) h0 (fun x hx => hb.same (hlt x (List.mem_append_left _ hx))) (fun x hx => hsp x (List.mem_append_left _ hx)))
      (WideElems.Trod_stays laidOut (by kernel_rfl) (of_decide_eq_true (by kernel_rfl)) h1 (fun x hx => hb.same (hlt x (List.mem_append_right _ hx))) (fun x hx => hsp x (List.mem_append_right _ hx))))
    (fun _ _ => rfl) (by simp) hb (ok_one (by kernel_rfl) rfl (okWide_bool_mk Tryz.underlying4 _))⟩

noncomputable def matrixApplies_wit : Array Value := #[.agg #[.int .u8 0, .int .u8 0, .bool false, .int .i8 0, .int .i8 0, .int .i8 0, .int .i8 0, .int .i8 0, .int .i8 0, .int .i8 0, .int .i8 0, .int .i8 0, .int .i8 0, .int .i8 0, .int .i8 0, .int .i8 0, .int .i8 0, .int .i8 0, .int .i8 0], .slice none 0 0]

theorem matrixApplies_witness (os : Os) {H : Type} (enc : TypeId × Value → H) :
    (Rows.OpenSpec.upto Rows.matrixAppliesSpec).preRow enc Tryz.prog Tryz.f5 Rows.matrixAppliesUptoRow.domain false Rows.matrixAppliesUptoRow.laid ((doorWorld os).forCall (fun _ _ => 0) ⟨#[], matrixApplies_wit, []⟩).memory matrixApplies_wit := by
  have hw : (DataW.whole enc Tryz.prog ((doorWorld os).forCall (fun _ _ => 0) ⟨#[], matrixApplies_wit, []⟩).memory Tryz.f5.params.toList Rows.matrixAppliesSpec.vars false matrixApplies_wit.toList 8).map (fun x => (x.1, x.2.1)) =
      some ([.agg [.lit (.int .u8 0), .lit (.int .u8 0), .lit (.bool false), .agg [.lit (.int .i8 0), .lit (.int .i8 0), .lit (.int .i8 0), .lit (.int .i8 0), .lit (.int .i8 0), .lit (.int .i8 0), .lit (.int .i8 0), .lit (.int .i8 0), .lit (.int .i8 0), .lit (.int .i8 0), .lit (.int .i8 0), .lit (.int .i8 0), .lit (.int .i8 0), .lit (.int .i8 0), .lit (.int .i8 0), .lit (.int .i8 0)]], .nil], []) := by kernel_rfl
  obtain ⟨⟨x1, x2, x3⟩, hx, hx1⟩ := Option.map_eq_some_iff.1 hw
  simp only [Prod.mk.injEq] at hx1
  obtain ⟨rfl, rfl⟩ := hx1
  exact OpenSpec.preRow_of_cond 8 hx (by kernel_rfl) (fun k hk => by cases hk; kernel_rfl) (by kernel_rfl) (door_met os _)

set_option maxRecDepth 100000 in
theorem matrixApplies_lifted (os : Os) (started : os.Started) (H : Type) (enc : TypeId × Value → H) (F : Stop.Interp) :
    ReturnsInHanded {} Tryz.checked os 5 .any ((Rows.OpenSpec.upto Rows.matrixAppliesSpec).preRow enc Tryz.prog Tryz.f5 Rows.matrixAppliesUptoRow.domain false Rows.matrixAppliesUptoRow.laid) (((Rows.OpenSpec.upto Rows.matrixAppliesSpec).at F).post enc Tryz.prog Tryz.f5 false true false false) := by
  refine returnsInHanded_of_row (C := Tryz.checked) (s := Rows.OpenSpec.upto Rows.matrixAppliesSpec) own started (by kernel_rfl) Tryz.func5
    (witness_row_atRef (enc := enc) (C := Tryz.checked) false (doorWorld os) matrixApplies_wit rfl (by kernel_rfl) (by kernel_rfl) (by kernel_rfl) (matrixApplies_witness os enc)) ?_
  intro W base args ds gs before hval hW _ hcond _ hL _ _
  exact matrixApplies_calls hval hW (ofLaid hL) (hcond _ rfl)

theorem matrixApplies_said : Rows.MatrixAppliesUptoSaid :=
  OpenClaim.holds_of_cond 5 Tryz.f5 rfl rfl rfl rfl rfl rfl rfl ⟨rfl, rfl, rfl, rfl, rfl⟩ rfl rfl rfl rfl rfl (by kernel_rfl) Tryz.func5 (by kernel_rfl)
    (of_decide_eq_true (by kernel_rfl)) (by unfold Func.isWrapper; first | (rw [if_pos (by decide +kernel)]; kernel_rfl) | (rw [if_neg (by decide +kernel)]; exact ⟨rfl, rfl⟩))
    (fun os started H enc _ F => by rw [OpenClaim.pre_eq_preRow]; exact matrixApplies_lifted os started H enc F)

/-- No parameter wants a stand-in; the program's own looks are off. -/
theorem matrixApplies_plain (f : FuncId) (fn : Func) (hf : Tryz.pinned.checked.prog.funcNamed "klippe/klippelaw06.MatrixApplies" = some f) (hfn : Tryz.pinned.checked.prog.funcs[f]? = some fn) :
    true = Tryz.pinned.checked.prog.looks [] ∧ ∀ (j : Nat) t, fn.params[j]? = some t → Tryz.pinned.checked.prog.wantsStandIn t = false := by
  obtain rfl : f = 5 := Option.some.inj ((show Tryz.prog.funcNamed "klippe/klippelaw06.MatrixApplies" = some 5 by kernel_rfl).symm.trans hf) |>.symm
  obtain rfl : fn = Tryz.f5 := (Option.some.inj (Tryz.func5.symm.trans hfn)).symm
  refine ⟨by kernel_rfl, fun j t ht => ?_⟩
  rw [Tryz.params5] at ht
  obtain rfl | rfl : t = 25 ∨ t = 49 := by simpa using Array.mem_of_getElem? ht
  · exact (show Tryz.prog.wantsStandIn 25 = false by kernel_rfl)
  · exact (show Tryz.prog.wantsStandIn 49 = false by kernel_rfl)

theorem matrixApplies_card : Rows.MatrixAppliesUptoCardSaid :=
  Claim7.holds_tied_plain_at .later [] _ _ _ _ matrixApplies_said (fun _ h => by cases h) (by kernel_rfl) (fun _ h => by cases h) matrixAppliesUpto_row_tie rfl ⟨rfl, rfl⟩ (by kernel_rfl) rfl matrixApplies_plain (by kernel_rfl)
#print axioms matrixApplies_card
end Go.Proofs.YtglbjagibldkgaaGreatDoor

/-
  MatrixChecks, the second form, as a card: for every input within the row's bound the law returns true and leaves its arguments alone. Own work.
-/
namespace Go.Proofs.YtglbjagibldkgaaGreatDoor
open Go Go.Pi Go.ChangeShapes Go.WideShapes Go.ChangeAt Go.RowKit

set_option maxRecDepth 100000 in
theorem matrixChecks_calls {H : Type} {enc : TypeId × Value → H} {W : World} {base : Nat} {args : Array Value} {ds gs : List (DataW H)} {before : List MemPlace}
    (hval : ∀ (j : Nat) t v, Tryz.f10.params[j]? = some t → args[j]? = some v → Value.okWide Tryz.prog W .any base t v)
    (hW : DataW.Whole enc Tryz.prog Tryz.f10.params.toList Rows.matrixChecksSpec.vars false W args.toList ds gs before) (hL : Tryz.L W) (hk : Rows.uptoSmall H (ds ++ gs) = true) :
    Calls Tryz.prog 10 args W fun e W' => ∃ v, e = .returned v ∧ Rows.matrixChecksSpec.post enc Tryz.prog Tryz.f10 false true false false W args v W' := by
  have hW' := hW
  obtain ⟨p, q, hA0, hV, rfl, hfz, hnd⟩ := hW
  have hA : DataW.TrodAll enc Tryz.prog W 0 (fun _ => true) true Tryz.f10.params.toList args.toList ds p := hA0
  rw [Tryz.params10] at hA hval
  obtain ⟨v0, d0, rfl, rfl, h0⟩ := trodAll_one hA
  obtain ⟨rfl, rfl⟩ := trodVars_none hV
  clear hA0
  simp only [List.append_nil] at hW' hk
  obtain ⟨l0, hp0, hr0⟩ := arg_mxs (hval 0 28 v0 rfl rfl) h0 (bound hk d0 (by simp))
  have hlt : ∀ x ∈ p, x.block < W.heap.size := fun x hx => by simpa using hW'.lt x hx
  have walk := (Tryz.lchecks l0 hp0.1 (fun r h => (hp0.2 r h).1)).2 (RS W) W [v0] (fun b j h => h) hL (Reps.cons hr0 .nil)
  refine walk.mono fun e W' ⟨v, he, hb, hres⟩ => ?_
  subst he
  have hres' : Rep _ W' (.bool true) v := hres
  cases hres'
  exact ⟨_, rfl, post_of_below (pa := p) (pv := []) hW' (fun _ _ _ => trodAll_cons_mk (shut_bool Tryz.underlying4 _) trodAll_mk0)
    (fun sp hsp => trodAll_mk1 (WideElems.Trod_stays laidOut (by kernel_rfl) (of_decide_eq_true (by kernel_rfl)) h0 (fun x hx => hb.same (hlt x hx)) (fun x hx => hsp x (by simpa using hx))))
    (fun _ _ => rfl) (by simp) hb (ok_one (by kernel_rfl) rfl (okWide_bool_mk Tryz.underlying4 _))⟩

noncomputable def matrixChecks_wit : Array Value := #[.slice none 0 0]

theorem matrixChecks_witness (os : Os) {H : Type} (enc : TypeId × Value → H) :
    (Rows.OpenSpec.upto Rows.matrixChecksSpec).preRow enc Tryz.prog Tryz.f10 Rows.matrixChecksUptoRow.domain false Rows.matrixChecksUptoRow.laid ((doorWorld os).forCall (fun _ _ => 0) ⟨#[], matrixChecks_wit, []⟩).memory matrixChecks_wit := by
  have hw : (DataW.whole enc Tryz.prog ((doorWorld os).forCall (fun _ _ => 0) ⟨#[], matrixChecks_wit, []⟩).memory Tryz.f10.params.toList Rows.matrixChecksSpec.vars false matrixChecks_wit.toList 8).map (fun x => (x.1, x.2.1)) =
      some ([.nil], []) := by kernel_rfl
  obtain ⟨⟨x1, x2, x3⟩, hx, hx1⟩ := Option.map_eq_some_iff.1 hw
  simp only [Prod.mk.injEq] at hx1
  obtain ⟨rfl, rfl⟩ := hx1
  exact OpenSpec.preRow_of_cond 8 hx (by kernel_rfl) (fun k hk => by cases hk; kernel_rfl) (by kernel_rfl) (door_met os _)

set_option maxRecDepth 100000 in
theorem matrixChecks_lifted (os : Os) (started : os.Started) (H : Type) (enc : TypeId × Value → H) (F : Stop.Interp) :
    ReturnsInHanded {} Tryz.checked os 10 .any ((Rows.OpenSpec.upto Rows.matrixChecksSpec).preRow enc Tryz.prog Tryz.f10 Rows.matrixChecksUptoRow.domain false Rows.matrixChecksUptoRow.laid) (((Rows.OpenSpec.upto Rows.matrixChecksSpec).at F).post enc Tryz.prog Tryz.f10 false true false false) := by
  refine returnsInHanded_of_row (C := Tryz.checked) (s := Rows.OpenSpec.upto Rows.matrixChecksSpec) own started (by kernel_rfl) Tryz.func10
    (witness_row_atRef (enc := enc) (C := Tryz.checked) false (doorWorld os) matrixChecks_wit rfl (by kernel_rfl) (by kernel_rfl) (by kernel_rfl) (matrixChecks_witness os enc)) ?_
  intro W base args ds gs before hval hW _ hcond _ hL _ _
  exact matrixChecks_calls hval hW (ofLaid hL) (hcond _ rfl)

theorem matrixChecks_said : Rows.MatrixChecksUptoSaid :=
  OpenClaim.holds_of_cond 10 Tryz.f10 rfl rfl rfl rfl rfl rfl rfl ⟨rfl, rfl, rfl, rfl, rfl⟩ rfl rfl rfl rfl rfl (by kernel_rfl) Tryz.func10 (by kernel_rfl)
    (of_decide_eq_true (by kernel_rfl)) (by unfold Func.isWrapper; first | (rw [if_pos (by decide +kernel)]; kernel_rfl) | (rw [if_neg (by decide +kernel)]; exact ⟨rfl, rfl⟩))
    (fun os started H enc _ F => by rw [OpenClaim.pre_eq_preRow]; exact matrixChecks_lifted os started H enc F)

/-- No parameter wants a stand-in; the program's own looks are off. -/
theorem matrixChecks_plain (f : FuncId) (fn : Func) (hf : Tryz.pinned.checked.prog.funcNamed "klippe/klippelaw06.MatrixChecks" = some f) (hfn : Tryz.pinned.checked.prog.funcs[f]? = some fn) :
    true = Tryz.pinned.checked.prog.looks [] ∧ ∀ (j : Nat) t, fn.params[j]? = some t → Tryz.pinned.checked.prog.wantsStandIn t = false := by
  obtain rfl : f = 10 := Option.some.inj ((show Tryz.prog.funcNamed "klippe/klippelaw06.MatrixChecks" = some 10 by kernel_rfl).symm.trans hf) |>.symm
  obtain rfl : fn = Tryz.f10 := (Option.some.inj (Tryz.func10.symm.trans hfn)).symm
  refine ⟨by kernel_rfl, fun j t ht => ?_⟩
  rw [Tryz.params10] at ht
  obtain rfl : t = 28 := by simpa using Array.mem_of_getElem? ht
  exact (show Tryz.prog.wantsStandIn 28 = false by kernel_rfl)

theorem matrixChecks_card : Rows.MatrixChecksUptoCardSaid :=
  Claim7.holds_tied_plain_at .later [] _ _ _ _ matrixChecks_said (fun _ h => by cases h) (by kernel_rfl) (fun _ h => by cases h) matrixChecksUpto_row_tie rfl ⟨rfl, rfl⟩ (by kernel_rfl) rfl matrixChecks_plain (by kernel_rfl)
#print axioms matrixChecks_card
end Go.Proofs.YtglbjagibldkgaaGreatDoor
