/-
  KinkAxes, the second form, as a card: for every input within the row's bound the law returns true and leaves its arguments alone. Own work.
-/
import Derived.Test.YtokpkgcjjbdinaaGreatDoorSj
import Derived.Test.YtokpkgcjjbdinaaGreatDoorSh
import Derived.Test.YtokpkgcjjbdinaaGreatDoorSg
set_option linter.unusedVariables false
set_option linter.unusedSimpArgs false
namespace Go.Proofs.YtokpkgcjjbdinaaGreatDoor
open Go Go.Pi Go.ChangeShapes Go.WideShapes Go.ChangeAt Go.RowKit

set_option maxRecDepth 100000 in
theorem kinkAxes_calls {H : Type} {enc : TypeId × Value → H} {W : World} {base : Nat} {args : Array Value} {ds gs : List (DataW H)} {before : List MemPlace}
    (hval : ∀ (j : Nat) t v, Tryz.f4.params[j]? = some t → args[j]? = some v → Value.okWide Tryz.prog W .any base t v)
    (hW : DataW.Whole enc Tryz.prog Tryz.f4.params.toList Rows.kinkAxesSpec.vars false W args.toList ds gs before) (hL : Tryz.L W) (hk : Rows.uptoSmall H (ds ++ gs) = true) :
    Calls Tryz.prog 4 args W fun e W' => ∃ v, e = .returned v ∧ Rows.kinkAxesSpec.post enc Tryz.prog Tryz.f4 false true false false W args v W' := by
  have hW' := hW
  obtain ⟨p, q, hA0, hV, rfl, hfz, hnd⟩ := hW
  have hA : DataW.TrodAll enc Tryz.prog W 0 (fun _ => true) true Tryz.f4.params.toList args.toList ds p := hA0
  rw [Tryz.params4] at hA hval
  obtain ⟨v0, d0, rfl, rfl, h0⟩ := trodAll_one hA
  obtain ⟨rfl, rfl⟩ := trodVars_none hV
  clear hA0
  simp only [List.append_nil] at hW' hk
  obtain ⟨pl0, hp0, hr0⟩ := arg_plan (hval 0 35 v0 rfl rfl) h0 (bound hk d0 (by simp))
  have hlt : ∀ x ∈ p, x.block < W.heap.size := fun x hx => by simpa using hW'.lt x hx
  have walk := (Tryz.lAxes Tryz.makeOk Tryz.ofOk pl0 hp0).2 (RS W) W [v0] (fun b j h => h) hL (Reps.cons hr0 .nil)
  refine walk.mono fun e W' ⟨v, he, hb, hres⟩ => ?_
  subst he
  have hres' : Rep _ W' (.bool true) v := hres
  cases hres'
  exact ⟨_, rfl, post_of_below (pa := p) (pv := []) hW' (fun _ _ _ => trodAll_cons_mk (shut_bool Tryz.underlying4 _) trodAll_mk0)
    (fun sp hsp => trodAll_mk1 (WideElems.Trod_stays laidOut (by kernel_rfl) (of_decide_eq_true (by kernel_rfl)) h0 (fun x hx => hb.same (hlt x hx)) (fun x hx => hsp x (by simpa using hx))))
    (fun _ _ => rfl) (by simp) hb (ok_one (by kernel_rfl) rfl (okWide_bool_mk Tryz.underlying4 _))⟩

noncomputable def kinkAxes_wit : Array Value := #[.agg #[.int .i8 0, .int .i8 0, .slice none 0 0]]

theorem kinkAxes_witness (os : Os) {H : Type} (enc : TypeId × Value → H) :
    (Rows.OpenSpec.upto Rows.kinkAxesSpec).preRow enc Tryz.prog Tryz.f4 Rows.kinkAxesUptoRow.domain false Rows.kinkAxesUptoRow.laid ((doorWorld os).forCall (fun _ _ => 0) ⟨#[], kinkAxes_wit, []⟩).memory kinkAxes_wit := by
  have hw : (DataW.whole enc Tryz.prog ((doorWorld os).forCall (fun _ _ => 0) ⟨#[], kinkAxes_wit, []⟩).memory Tryz.f4.params.toList Rows.kinkAxesSpec.vars false kinkAxes_wit.toList 8).map (fun x => (x.1, x.2.1)) =
      some ([.agg [.agg [.lit (.int .i8 0), .lit (.int .i8 0)], .nil]], []) := by kernel_rfl
  obtain ⟨⟨x1, x2, x3⟩, hx, hx1⟩ := Option.map_eq_some_iff.1 hw
  simp only [Prod.mk.injEq] at hx1
  obtain ⟨rfl, rfl⟩ := hx1
  exact OpenSpec.preRow_of_cond 8 hx (by kernel_rfl) (fun k hk => by cases hk; kernel_rfl) (by kernel_rfl) (door_met os _)

set_option maxRecDepth 100000 in
theorem kinkAxes_lifted (os : Os) (started : os.Started) (H : Type) (enc : TypeId × Value → H) (F : Stop.Interp) :
    ReturnsInHanded {} Tryz.checked os 4 .any ((Rows.OpenSpec.upto Rows.kinkAxesSpec).preRow enc Tryz.prog Tryz.f4 Rows.kinkAxesUptoRow.domain false Rows.kinkAxesUptoRow.laid) (((Rows.OpenSpec.upto Rows.kinkAxesSpec).at F).post enc Tryz.prog Tryz.f4 false true false false) := by
  refine returnsInHanded_of_row (C := Tryz.checked) (s := Rows.OpenSpec.upto Rows.kinkAxesSpec) own started (by kernel_rfl) Tryz.func4
    (witness_row_atRef (enc := enc) (C := Tryz.checked) false (doorWorld os) kinkAxes_wit rfl (by kernel_rfl) (by kernel_rfl) (by kernel_rfl) (kinkAxes_witness os enc)) ?_
  intro W base args ds gs before hval hW _ hcond _ hL _ _
  exact kinkAxes_calls hval hW (ofLaid hL) (hcond _ rfl)

theorem kinkAxes_said : Rows.KinkAxesUptoSaid :=
  OpenClaim.holds_of_cond 4 Tryz.f4 rfl rfl rfl rfl rfl rfl rfl ⟨rfl, rfl, rfl, rfl, rfl⟩ rfl rfl rfl rfl rfl (by kernel_rfl) Tryz.func4 (by kernel_rfl)
    (of_decide_eq_true (by kernel_rfl)) (by unfold Func.isWrapper; first | (rw [if_pos (by decide +kernel)]; kernel_rfl) | (rw [if_neg (by decide +kernel)]; exact ⟨rfl, rfl⟩))
    (fun os started H enc _ F => by rw [OpenClaim.pre_eq_preRow]; exact kinkAxes_lifted os started H enc F)

/-- No parameter wants a stand-in; the program's own looks are off. -/
theorem kinkAxes_plain (f : FuncId) (fn : Func) (hf : Tryz.pinned.checked.prog.funcNamed "klippe/klippelaw40.KinkAxes" = some f) (hfn : Tryz.pinned.checked.prog.funcs[f]? = some fn) :
    true = Tryz.pinned.checked.prog.looks [] ∧ ∀ (j : Nat) t, fn.params[j]? = some t → Tryz.pinned.checked.prog.wantsStandIn t = false := by
  obtain rfl : f = 4 := Option.some.inj ((show Tryz.prog.funcNamed "klippe/klippelaw40.KinkAxes" = some 4 by kernel_rfl).symm.trans hf) |>.symm
  obtain rfl : fn = Tryz.f4 := (Option.some.inj (Tryz.func4.symm.trans hfn)).symm
  refine ⟨by kernel_rfl, fun j t ht => ?_⟩
  rw [Tryz.params4] at ht
  obtain rfl : t = 35 := by simpa using Array.mem_of_getElem? ht
  exact (show Tryz.prog.wantsStandIn 35 = false by kernel_rfl)

theorem kinkAxes_card : Rows.KinkAxesUptoCardSaid :=
  Claim7.holds_tied_plain_at .later [] _ _ _ _ kinkAxes_said (fun _ h => by cases h) (by kernel_rfl) (fun _ h => by cases h) kinkAxesUpto_row_tie rfl ⟨rfl, rfl⟩ (by kernel_rfl) rfl kinkAxes_plain (by kernel_rfl)
#print axioms kinkAxes_card
end Go.Proofs.YtokpkgcjjbdinaaGreatDoor

/-
  KinkHeights, the second form, as a card: for every input within the row's bound the law returns true and leaves its arguments alone. Own work.
-/
namespace Go.Proofs.YtokpkgcjjbdinaaGreatDoor
open Go Go.Pi Go.ChangeShapes Go.WideShapes Go.ChangeAt Go.RowKit

set_option maxRecDepth 100000 in
theorem kinkHeights_calls {H : Type} {enc : TypeId × Value → H} {W : World} {base : Nat} {args : Array Value} {ds gs : List (DataW H)} {before : List MemPlace}
    (hval : ∀ (j : Nat) t v, Tryz.f9.params[j]? = some t → args[j]? = some v → Value.okWide Tryz.prog W .any base t v)
    (hW : DataW.Whole enc Tryz.prog Tryz.f9.params.toList Rows.kinkHeightsSpec.vars false W args.toList ds gs before) (hL : Tryz.L W) (hk : Rows.uptoSmall H (ds ++ gs) = true) :
    Calls Tryz.prog 9 args W fun e W' => ∃ v, e = .returned v ∧ Rows.kinkHeightsSpec.post enc Tryz.prog Tryz.f9 false true false false W args v W' := by
  have hW' := hW
  obtain ⟨p, q, hA0, hV, rfl, hfz, hnd⟩ := hW
  have hA : DataW.TrodAll enc Tryz.prog W 0 (fun _ => true) true Tryz.f9.params.toList args.toList ds p := hA0
  rw [Tryz.params9] at hA hval
  obtain ⟨v0, v1, d0, d1, p0, p1, rfl, rfl, rfl, h0, h1⟩ := trodAll_two hA
  obtain ⟨rfl, rfl⟩ := trodVars_none hV
  clear hA0
  simp only [List.append_nil] at hW' hk
  obtain ⟨pl0, hp0, hr0⟩ := arg_plan (hval 0 35 v0 rfl rfl) h0 (bound hk d0 (by simp))
  obtain ⟨n1, hp1, hr1⟩ := arg_int Tryz.underlying31 (by kernel_rfl) (hval 1 31 v1 rfl rfl) h1 (bound hk d1 (by simp))
  have hlt : ∀ x ∈ p0 ++ p1, x.block < W.heap.size := fun x hx => hW'.lt x hx
  have walk := (Tryz.lHeights Tryz.makeOk Tryz.ofOk pl0 hp0 n1 (i8_wf hp1)).2 (RS W) W [v0, v1] (fun b j h => h) hL (Reps.cons hr0 (Reps.cons hr1 .nil))
  refine walk.mono fun e W' ⟨v, he, hb, hres⟩ => ?_
  subst he
  have hres' : Rep _ W' (.bool true) v := hres
  cases hres'
  exact ⟨_, rfl, post_of_below (pa := p0 ++ p1) (pv := []) hW' (fun _ _ _ => trodAll_cons_mk (shut_bool Tryz.underlying4 _) trodAll_mk0)
    (fun sp hsp => trodAll_mk2 (WideElems.Trod_stays laidOut (by kernel_rfl) (of_decide_eq_true (by kernel_rfl)) h0 (fun x hx => hb.same (hlt x (List.mem_append_left _ hx))) (fun x hx => hsp x (List.mem_append_left _ hx)))
      (WideElems.Trod_stays laidOut (by kernel_rfl) (of_decide_eq_true (by kernel_rfl)) h1 (fun x hx => hb.same (hlt x (List.mem_append_right _ hx))) (fun x hx => hsp x (List.mem_append_right _ hx))))
    (fun _ _ => rfl) (by simp) hb (ok_one (by kernel_rfl) rfl (okWide_bool_mk Tryz.underlying4 _))⟩

noncomputable def kinkHeights_wit : Array Value := #[.agg #[.int .i8 0, .int .i8 0, .slice none 0 0], .int .i8 0]

theorem kinkHeights_witness (os : Os) {H : Type} (enc : TypeId × Value → H) :
    (Rows.OpenSpec.upto Rows.kinkHeightsSpec).preRow enc Tryz.prog Tryz.f9 Rows.kinkHeightsUptoRow.domain false Rows.kinkHeightsUptoRow.laid ((doorWorld os).forCall (fun _ _ => 0) ⟨#[], kinkHeights_wit, []⟩).memory kinkHeights_wit := by
  have hw : (DataW.whole enc Tryz.prog ((doorWorld os).forCall (fun _ _ => 0) ⟨#[], kinkHeights_wit, []⟩).memory Tryz.f9.params.toList Rows.kinkHeightsSpec.vars false kinkHeights_wit.toList 8).map (fun x => (x.1, x.2.1)) =
      some ([.agg [.agg [.lit (.int .i8 0), .lit (.int .i8 0)], .nil], .lit (.int .i8 0)], []) := by kernel_rfl
  obtain ⟨⟨x1, x2, x3⟩, hx, hx1⟩ := Option.map_eq_some_iff.1 hw
  simp only [Prod.mk.injEq] at hx1
  obtain ⟨rfl, rfl⟩ := hx1
  exact OpenSpec.preRow_of_cond 8 hx (by kernel_rfl) (fun k hk => by cases hk; kernel_rfl) (by kernel_rfl) (door_met os _)

set_option maxRecDepth 100000 in
theorem kinkHeights_lifted (os : Os) (started : os.Started) (H : Type) (enc : TypeId × Value → H) (F : Stop.Interp) :
    ReturnsInHanded {} Tryz.checked os 9 .any ((Rows.OpenSpec.upto Rows.kinkHeightsSpec).preRow enc Tryz.prog Tryz.f9 Rows.kinkHeightsUptoRow.domain false Rows.kinkHeightsUptoRow.laid) (((Rows.OpenSpec.upto Rows.kinkHeightsSpec).at F).post enc Tryz.prog Tryz.f9 false true false false) := by
  refine returnsInHanded_of_row (C := Tryz.checked) (s := Rows.OpenSpec.upto Rows.kinkHeightsSpec) own started (by kernel_rfl) Tryz.func9
    (witness_row_atRef (enc := enc) (C := Tryz.checked) false (doorWorld os) kinkHeights_wit rfl (by kernel_rfl) (by kernel_rfl) (by kernel_rfl) (kinkHeights_witness os enc)) ?_
  intro W base args ds gs before hval hW _ hcond _ hL _ _
  exact kinkHeights_calls hval hW (ofLaid hL) (hcond _ rfl)

theorem kinkHeights_said : Rows.KinkHeightsUptoSaid :=
  OpenClaim.holds_of_cond 9 Tryz.f9 rfl rfl rfl rfl rfl rfl rfl ⟨rfl, rfl, rfl, rfl, rfl⟩ rfl rfl rfl rfl rfl (by kernel_rfl) Tryz.func9 (by kernel_rfl)
    (of_decide_eq_true (by kernel_rfl)) (by unfold Func.isWrapper; first | (rw [if_pos (by decide +kernel)]; kernel_rfl) | (rw [if_neg (by decide +kernel)]; exact ⟨rfl, rfl⟩))
    (fun os started H enc _ F => by rw [OpenClaim.pre_eq_preRow]; exact kinkHeights_lifted os started H enc F)

/-- No parameter wants a stand-in; the program's own looks are off. -/
theorem kinkHeights_plain (f : FuncId) (fn : Func) (hf : Tryz.pinned.checked.prog.funcNamed "klippe/klippelaw40.KinkHeights" = some f) (hfn : Tryz.pinned.checked.prog.funcs[f]? = some fn) :
    true = Tryz.pinned.checked.prog.looks [] ∧ ∀ (j : Nat) t, fn.params[j]? = some t → Tryz.pinned.checked.prog.wantsStandIn t = false := by
  obtain rfl : f = 9 := Option.some.inj ((show Tryz.prog.funcNamed "klippe/klippelaw40.KinkHeights" = some 9 by kernel_rfl).symm.trans hf) |>.symm
  obtain rfl : fn = Tryz.f9 := (Option.some.inj (Tryz.func9.symm.trans hfn)).symm
  refine ⟨by kernel_rfl, fun j t ht => ?_⟩
  rw [Tryz.params9] at ht
  obtain rfl | rfl : t = 35 ∨ t = 31 := by simpa using Array.mem_of_getElem? ht
  · exact (show Tryz.prog.wantsStandIn 35 = false by kernel_rfl)
  · exact (show Tryz.prog.wantsStandIn 31 = false by kernel_rfl)

theorem kinkHeights_card : Rows.KinkHeightsUptoCardSaid :=
  Claim7.holds_tied_plain_at .later [] _ _ _ _ kinkHeights_said (fun _ h => by cases h) (by kernel_rfl) (fun _ h => by cases h) kinkHeightsUpto_row_tie rfl ⟨rfl, rfl⟩ (by kernel_rfl) rfl kinkHeights_plain (by kernel_rfl)
#print axioms kinkHeights_card
end Go.Proofs.YtokpkgcjjbdinaaGreatDoor

/-
  KinkAreas, the second form, as a card: for every input within the row's bound the law returns true and leaves its arguments alone. Own work.
-/
namespace Go.Proofs.YtokpkgcjjbdinaaGreatDoor
open Go Go.Pi Go.ChangeShapes Go.WideShapes Go.ChangeAt Go.RowKit

set_option maxRecDepth 100000 in
theorem kinkAreas_calls {H : Type} {enc : TypeId × Value → H} {W : World} {base : Nat} {args : Array Value} {ds gs : List (DataW H)} {before : List MemPlace}
    (hval : ∀ (j : Nat) t v, Tryz.f6.params[j]? = some t → args[j]? = some v → Value.okWide Tryz.prog W .any base t v)
    (hW : DataW.Whole enc Tryz.prog Tryz.f6.params.toList Rows.kinkAreasSpec.vars false W args.toList ds gs before) (hL : Tryz.L W) (hk : Rows.uptoSmall H (ds ++ gs) = true) :
    Calls Tryz.prog 6 args W fun e W' => ∃ v, e = .returned v ∧ Rows.kinkAreasSpec.post enc Tryz.prog Tryz.f6 false true false false W args v W' := by
  have hW' := hW
  obtain ⟨p, q, hA0, hV, rfl, hfz, hnd⟩ := hW
  have hA : DataW.TrodAll enc Tryz.prog W 0 (fun _ => true) true Tryz.f6.params.toList args.toList ds p := hA0
  rw [Tryz.params6] at hA hval
  obtain ⟨v0, v1, v2, d0, d1, d2, p0, p1, p2, rfl, rfl, rfl, h0, h1, h2⟩ := trodAll_three hA
  obtain ⟨rfl, rfl⟩ := trodVars_none hV
  clear hA0
  simp only [List.append_nil] at hW' hk
  obtain ⟨pl0, hp0, hr0⟩ := arg_plan (hval 0 35 v0 rfl rfl) h0 (bound hk d0 (by simp))
  obtain ⟨x1, y1, hp1, hr1⟩ := arg_p8 (hval 1 32 v1 rfl rfl) h1 (bound hk d1 (by simp))
  obtain ⟨n2, hp2, hr2⟩ := arg_int Tryz.underlying3 (by kernel_rfl) (hval 2 3 v2 rfl rfl) h2 (bound hk d2 (by simp))
  have hlt : ∀ x ∈ p0 ++ p1 ++ p2, x.block < W.heap.size := fun x hx => hW'.lt x hx
  have walk := (Tryz.lAreas Tryz.makeOk Tryz.ofOk pl0 hp0 x1 y1 hp1.1 hp1.2 n2 (i64_wf hp2)).2 (RS W) W [v0, v1, v2] (fun b j h => h) hL (Reps.cons hr0 (Reps.cons hr1 (Reps.cons hr2 .nil)))
  refine walk.mono fun e W' ⟨v, he, hb, hres⟩ => ?_
  subst he
  have hres' : Rep _ W' (.bool true) v := hres
  cases hres'
  exact ⟨_, rfl, post_of_below (pa := p0 ++ p1 ++ p2) (pv := []) hW' (fun _ _ _ => trodAll_cons_mk (shut_bool Tryz.underlying4 _) trodAll_mk0)
    (fun sp hsp => (by rw [List.append_assoc]; exact trodAll_mk3 (WideElems.Trod_stays laidOut (by kernel_rfl) (of_decide_eq_true (by kernel_rfl)) h0 (fun x hx => hb.same (hlt x (List.mem_append_left _ (List.mem_append_left _ hx)))) (fun x hx => hsp x (List.mem_append_left _ (List.mem_append_left _ hx)))) (WideElems.Trod_stays laidOut (by kernel_rfl) (of_decide_eq_true (by kernel_rfl)) h1 (fun x hx => hb.same (hlt x (List.mem_append_left _ (List.mem_append_right _ hx)))) (fun x hx => hsp x (List.mem_append_left _ (List.mem_append_right _ hx)))) (WideElems.Trod_stays laidOut (by kernel_rfl) (of_decide_eq_true (by kernel_rfl)) h2 (fun x hx => hb.same (hlt x (List.mem_append_right _ hx))) (fun x hx => hsp x (List.mem_append_right _ hx)))))
    (fun _ _ => rfl) (by simp) hb (ok_one (by kernel_rfl) rfl (okWide_bool_mk Tryz.underlying4 _))⟩

noncomputable def kinkAreas_wit : Array Value := #[.agg #[.int .i8 0, .int .i8 0, .slice none 0 0], .agg #[.int .i8 0, .int .i8 0], .int .i64 0]

theorem kinkAreas_witness (os : Os) {H : Type} (enc : TypeId × Value → H) :
    (Rows.OpenSpec.upto Rows.kinkAreasSpec).preRow enc Tryz.prog Tryz.f6 Rows.kinkAreasUptoRow.domain false Rows.kinkAreasUptoRow.laid ((doorWorld os).forCall (fun _ _ => 0) ⟨#[], kinkAreas_wit, []⟩).memory kinkAreas_wit := by
  have hw : (DataW.whole enc Tryz.prog ((doorWorld os).forCall (fun _ _ => 0) ⟨#[], kinkAreas_wit, []⟩).memory Tryz.f6.params.toList Rows.kinkAreasSpec.vars false kinkAreas_wit.toList 8).map (fun x => (x.1, x.2.1)) =
      some ([.agg [.agg [.lit (.int .i8 0), .lit (.int .i8 0)], .nil], .agg [.lit (.int .i8 0), .lit (.int .i8 0)], .lit (.int .i64 0)], []) := by kernel_rfl
  obtain ⟨⟨x1, x2, x3⟩, hx, hx1⟩ := Option.map_eq_some_iff.1 hw
  simp only [Prod.mk.injEq] at hx1
  obtain ⟨rfl, rfl⟩ := hx1
  exact OpenSpec.preRow_of_cond 8 hx (by kernel_rfl) (fun k hk => by cases hk; kernel_rfl) (by kernel_rfl) (door_met os _)

set_option maxRecDepth 100000 in
theorem kinkAreas_lifted (os : Os) (started : os.Started) (H : Type) (enc : TypeId × Value → H) (F : Stop.Interp) :
    ReturnsInHanded {} Tryz.checked os 6 .any ((Rows.OpenSpec.upto Rows.kinkAreasSpec).preRow enc Tryz.prog Tryz.f6 Rows.kinkAreasUptoRow.domain false Rows.kinkAreasUptoRow.laid) (((Rows.OpenSpec.upto Rows.kinkAreasSpec).at F).post enc Tryz.prog Tryz.f6 false true false false) := by
  refine returnsInHanded_of_row (C := Tryz.checked) (s := Rows.OpenSpec.upto Rows.kinkAreasSpec) own started (by kernel_rfl) Tryz.func6
    (witness_row_atRef (enc := enc) (C := Tryz.checked) false (doorWorld os) kinkAreas_wit rfl (by kernel_rfl) (by kernel_rfl) (by kernel_rfl) (kinkAreas_witness os enc)) ?_
  intro W base args ds gs before hval hW _ hcond _ hL _ _
  exact kinkAreas_calls hval hW (ofLaid hL) (hcond _ rfl)

theorem kinkAreas_said : Rows.KinkAreasUptoSaid :=
  OpenClaim.holds_of_cond 6 Tryz.f6 rfl rfl rfl rfl rfl rfl rfl ⟨rfl, rfl, rfl, rfl, rfl⟩ rfl rfl rfl rfl rfl (by kernel_rfl) Tryz.func6 (by kernel_rfl)
    (of_decide_eq_true (by kernel_rfl)) (by unfold Func.isWrapper; first | (rw [if_pos (by decide +kernel)]; kernel_rfl) | (rw [if_neg (by decide +kernel)]; exact ⟨rfl, rfl⟩))
    (fun os started H enc _ F => by rw [OpenClaim.pre_eq_preRow]; exact kinkAreas_lifted os started H enc F)

/-- No parameter wants a stand-in; the program's own looks are off. -/
theorem kinkAreas_plain (f : FuncId) (fn : Func) (hf : Tryz.pinned.checked.prog.funcNamed "klippe/klippelaw40.KinkAreas" = some f) (hfn : Tryz.pinned.checked.prog.funcs[f]? = some fn) :
    true = Tryz.pinned.checked.prog.looks [] ∧ ∀ (j : Nat) t, fn.params[j]? = some t → Tryz.pinned.checked.prog.wantsStandIn t = false := by
  obtain rfl : f = 6 := Option.some.inj ((show Tryz.prog.funcNamed "klippe/klippelaw40.KinkAreas" = some 6 by kernel_rfl).symm.trans hf) |>.symm
  obtain rfl : fn = Tryz.f6 := (Option.some.inj (Tryz.func6.symm.trans hfn)).symm
  refine ⟨by kernel_rfl, fun j t ht => ?_⟩
  rw [Tryz.params6] at ht
  obtain rfl | rfl | rfl : t = 35 ∨ t = 32 ∨ t = 3 := by simpa using Array.mem_of_getElem? ht
  · exact (show Tryz.prog.wantsStandIn 35 = false by kernel_rfl)
  · exact (show Tryz.prog.wantsStandIn 32 = false by kernel_rfl)
  · exact (show Tryz.prog.wantsStandIn 3 = false by kernel_rfl)

theorem kinkAreas_card : Rows.KinkAreasUptoCardSaid :=
  Claim7.holds_tied_plain_at .later [] _ _ _ _ kinkAreas_said (fun _ h => by cases h) (by kernel_rfl) (fun _ h => by cases h) kinkAreasUpto_row_tie rfl ⟨rfl, rfl⟩ (by kernel_rfl) rfl kinkAreas_plain (by kernel_rfl)
#print axioms kinkAreas_card
end Go.Proofs.YtokpkgcjjbdinaaGreatDoor

/-
  KinkReturns, the second form, as a card: for every input within the row's bound the law returns true and leaves its arguments alone. Own work.
-/
namespace Go.Proofs.YtokpkgcjjbdinaaGreatDoor
open Go Go.Pi Go.ChangeShapes Go.WideShapes Go.ChangeAt Go.RowKit

set_option maxRecDepth 100000 in
theorem kinkReturns_calls {H : Type} {enc : TypeId × Value → H} {W : World} {base : Nat} {args : Array Value} {ds gs : List (DataW H)} {before : List MemPlace}
    (hval : ∀ (j : Nat) t v, Tryz.f8.params[j]? = some t → args[j]? = some v → Value.okWide Tryz.prog W .any base t v)
    (hW : DataW.Whole enc Tryz.prog Tryz.f8.params.toList Rows.kinkReturnsSpec.vars false W args.toList ds gs before) (hL : Tryz.L W) (hk : Rows.uptoSmall H (ds ++ gs) = true) :
    Calls Tryz.prog 8 args W fun e W' => ∃ v, e = .returned v ∧ Rows.kinkReturnsSpec.post enc Tryz.prog Tryz.f8 false true false false W args v W' := by
  have hW' := hW
  obtain ⟨p, q, hA0, hV, rfl, hfz, hnd⟩ := hW
  have hA : DataW.TrodAll enc Tryz.prog W 0 (fun _ => true) true Tryz.f8.params.toList args.toList ds p := hA0
  rw [Tryz.params8] at hA hval
  obtain ⟨v0, v1, d0, d1, p0, p1, rfl, rfl, rfl, h0, h1⟩ := trodAll_two hA
  obtain ⟨rfl, rfl⟩ := trodVars_none hV
  clear hA0
  simp only [List.append_nil] at hW' hk
  obtain ⟨pl0, hp0, hr0⟩ := arg_plan (hval 0 35 v0 rfl rfl) h0 (bound hk d0 (by simp))
  obtain ⟨x1, y1, hp1, hr1⟩ := arg_p8 (hval 1 32 v1 rfl rfl) h1 (bound hk d1 (by simp))
  have hlt : ∀ x ∈ p0 ++ p1, x.block < W.heap.size := fun x hx => hW'.lt x hx
  have walk := (Tryz.lReturns Tryz.makeOk pl0 hp0 x1 y1 hp1.1 hp1.2).2 (RS W) W [v0, v1] (fun b j h => h) hL (Reps.cons hr0 (Reps.cons hr1 .nil))
  refine walk.mono fun e W' ⟨v, he, hb, hres⟩ => ?_
  subst he
  have hres' : Rep _ W' (.bool true) v := hres
  cases hres'
  exact ⟨_, rfl, post_of_below (pa := p0 ++ p1) (pv := []) hW' (fun _ _ _ => trodAll_cons_mk (shut_bool Tryz.underlying4 _) trodAll_mk0)
    (fun sp hsp => trodAll_mk2 (WideElems.Trod_stays laidOut (by kernel_rfl) (of_decide_eq_true (by kernel_rfl)) h0 (fun x hx => hb.same (hlt x (List.mem_append_left _ hx))) (fun x hx => hsp x (List.mem_append_left _ hx)))
      (WideElems.Trod_stays laidOut (by kernel_rfl) (of_decide_eq_true (by kernel_rfl)) h1 (fun x hx => hb.same (hlt x (List.mem_append_right _ hx))) (fun x hx => hsp x (List.mem_append_right _ hx))))
    (fun _ _ => rfl) (by simp) hb (ok_one (by kernel_rfl) rfl (okWide_bool_mk Tryz.underlying4 _))⟩

noncomputable def kinkReturns_wit : Array Value := #[.agg #[.int .i8 0, .int .i8 0, .slice none 0 0], .agg #[.int .i8 0, .int .i8 0]]

theorem kinkReturns_witness (os : Os) {H : Type} (enc : TypeId × Value → H) :
    (Rows.OpenSpec.upto Rows.kinkReturnsSpec).preRow enc Tryz.prog Tryz.f8 Rows.kinkReturnsUptoRow.domain false Rows.kinkReturnsUptoRow.laid ((doorWorld os).forCall (fun _ _ => 0) ⟨#[], kinkReturns_wit, []⟩).memory kinkReturns_wit := by
  have hw : (DataW.whole enc Tryz.prog ((doorWorld os).forCall (fun _ _ => 0) ⟨#[], kinkReturns_wit, []⟩).memory Tryz.f8.params.toList Rows.kinkReturnsSpec.vars false kinkReturns_wit.toList 8).map (fun x => (x.1, x.2.1)) =
      some ([.agg [.agg [.lit (.int .i8 0), .lit (.int .i8 0)], .nil], .agg [.lit (.int .i8 0), .lit (.int .i8 0)]], []) := by kernel_rfl
  obtain ⟨⟨x1, x2, x3⟩, hx, hx1⟩ := Option.map_eq_some_iff.1 hw
  simp only [Prod.mk.injEq] at hx1
  obtain ⟨rfl, rfl⟩ := hx1
  exact OpenSpec.preRow_of_cond 8 hx (by kernel_rfl) (fun k hk => by cases hk; kernel_rfl) (by kernel_rfl) (door_met os _)

set_option maxRecDepth 100000 in
theorem kinkReturns_lifted (os : Os) (started : os.Started) (H : Type) (enc : TypeId × Value → H) (F : Stop.Interp) :
    ReturnsInHanded {} Tryz.checked os 8 .any ((Rows.OpenSpec.upto Rows.kinkReturnsSpec).preRow enc Tryz.prog Tryz.f8 Rows.kinkReturnsUptoRow.domain false Rows.kinkReturnsUptoRow.laid) (((Rows.OpenSpec.upto Rows.kinkReturnsSpec).at F).post enc Tryz.prog Tryz.f8 false true false false) := by
  refine returnsInHanded_of_row (C := Tryz.checked) (s := Rows.OpenSpec.upto Rows.kinkReturnsSpec) own started (by kernel_rfl) Tryz.func8
    (witness_row_atRef (enc := enc) (C := Tryz.checked) false (doorWorld os) kinkReturns_wit rfl (by kernel_rfl) (by kernel_rfl) (by kernel_rfl) (kinkReturns_witness os enc)) ?_
  intro W base args ds gs before hval hW _ hcond _ hL _ _
  exact kinkReturns_calls hval hW (ofLaid hL) (hcond _ rfl)

theorem kinkReturns_said : Rows.KinkReturnsUptoSaid :=
  OpenClaim.holds_of_cond 8 Tryz.f8 rfl rfl rfl rfl rfl rfl rfl ⟨rfl, rfl, rfl, rfl, rfl⟩ rfl rfl rfl rfl rfl (by kernel_rfl) Tryz.func8 (by kernel_rfl)
    (of_decide_eq_true (by kernel_rfl)) (by unfold Func.isWrapper; first | (rw [if_pos (by decide +kernel)]; kernel_rfl) | (rw [if_neg (by decide +kernel)]; exact ⟨rfl, rfl⟩))
    (fun os started H enc _ F => by rw [OpenClaim.pre_eq_preRow]; exact kinkReturns_lifted os started H enc F)

/-- No parameter wants a stand-in; the program's own looks are off. -/
theorem kinkReturns_plain (f : FuncId) (fn : Func) (hf : Tryz.pinned.checked.prog.funcNamed "klippe/klippelaw40.KinkReturns" = some f) (hfn : Tryz.pinned.checked.prog.funcs[f]? = some fn) :
    true = Tryz.pinned.checked.prog.looks [] ∧ ∀ (j : Nat) t, fn.params[j]? = some t → Tryz.pinned.checked.prog.wantsStandIn t = false := by
  obtain rfl : f = 8 := Option.some.inj ((show Tryz.prog.funcNamed "klippe/klippelaw40.KinkReturns" = some 8 by kernel_rfl).symm.trans hf) |>.symm
  obtain rfl : fn = Tryz.f8 := (Option.some.inj (Tryz.func8.symm.trans hfn)).symm
  refine ⟨by kernel_rfl, fun j t ht => ?_⟩
  rw [Tryz.params8] at ht
  obtain rfl | rfl : t = 35 ∨ t = 32 := by simpa using Array.mem_of_getElem? ht
  · exact (show Tryz.prog.wantsStandIn 35 = false by kernel_rfl)
  · exact (show Tryz.prog.wantsStandIn 32 = false by kernel_rfl)

theorem kinkReturns_card : Rows.KinkReturnsUptoCardSaid :=
  Claim7.holds_tied_plain_at .later [] _ _ _ _ kinkReturns_said (fun _ h => by cases h) (by kernel_rfl) (fun _ h => by cases h) kinkReturnsUpto_row_tie rfl ⟨rfl, rfl⟩ (by kernel_rfl) rfl kinkReturns_plain (by kernel_rfl)
#print axioms kinkReturns_card
end Go.Proofs.YtokpkgcjjbdinaaGreatDoor
