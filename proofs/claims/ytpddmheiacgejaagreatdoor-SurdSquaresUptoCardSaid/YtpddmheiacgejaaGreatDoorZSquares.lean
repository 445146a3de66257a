/-
  SurdSquares, the second form, as a card: for every input within the row's bound the law returns true and leaves its arguments alone. Own work.
-/
import Derived.Test.YtpddmheiacgejaaGreatDoorSk
import Derived.Test.YtpddmheiacgejaaGreatDoorSi
namespace Go.Proofs.YtpddmheiacgejaaGreatDoor
open Go Go.Pi Go.ChangeShapes Go.WideShapes Go.ChangeAt Go.RowKit

theorem u16_wf {n : Int} (h : (Lit.int .u16 n).wf = true) : 0 ≤ n ∧ n ≤ 65535 := by
  simp only [Lit.wf, Bool.and_eq_true, decide_eq_true_eq] at h
  rw [show IntKind.u16.min = 0 by decide, show IntKind.u16.max = 65535 by decide] at h
  exact h
set_option maxRecDepth 100000 in
theorem arg_pair16 {H : Type} {enc : TypeId × Value → H} {W : World} {base b : Nat} {sp : Nat → Bool} {held : Bool} {v : Value} {d : DataW H} {ps : List MemPlace}
    (hv : Value.okWide Tryz.prog W .any b 77 v) (h : DataW.Trod enc Tryz.prog W base sp held 77 v d ps) (hd : Rows.uptoBulk d ≤ 1048576) :
    ∃ n m : Int, ((0 ≤ n ∧ n ≤ 65535) ∧ (0 ≤ m ∧ m ≤ 65535)) ∧ Rep (RS W) W (.agg [.int .u16 n, .int .u16 m]) v := by
  obtain ⟨cs, rfl⟩ : ∃ cs, v = .agg cs := by
    simp only [Value.okWide, Tryz.underlying77] at hv
    obtain ⟨cs, h1, _⟩ := hv
    exact ⟨cs, h1⟩
  obtain ⟨fuel, h⟩ := h
  obtain ⟨ds, h1, h2, h3⟩ := reps_of_trod (N := 1048576) bulk 8 77 fuel cs.toList (d, ps) (by kernel_rfl) h hd
  obtain ⟨rs, e, hl, hr⟩ := h3.toArr Tryz.underlying77
  match rs, hl with
  | [r0, r1], _ =>
    obtain ⟨n, rfl, hn⟩ := (hr r0 (by simp)).toInt Tryz.underlying76
    obtain ⟨m, rfl, hm⟩ := (hr r1 (by simp)).toInt Tryz.underlying76
    refine ⟨n, m, ⟨u16_wf hn, u16_wf hm⟩, ?_⟩
    have e2 : ds = [.int .u16 n, .int .u16 m] := e
    rw [← e2]
    exact .agg ds cs.toList h1.1 h2 h1.2

set_option maxRecDepth 100000 in
theorem surdSquares_calls {H : Type} {enc : TypeId × Value → H} {W : World} {base : Nat} {args : Array Value} {ds gs : List (DataW H)} {before : List MemPlace}
    (hval : ∀ (j : Nat) t v, Tryz.f12.params[j]? = some t → args[j]? = some v → Value.okWide Tryz.prog W .any base t v)
    (hW : DataW.Whole enc Tryz.prog Tryz.f12.params.toList Rows.surdSquaresSpec.vars false W args.toList ds gs before) (hL : Tryz.L W) (hk : Rows.uptoSmall H (ds ++ gs) = true) :
    Calls Tryz.prog 12 args W fun e W' => ∃ v, e = .returned v ∧ Rows.surdSquaresSpec.post enc Tryz.prog Tryz.f12 false true false false W args v W' := by
  have hW' := hW
  obtain ⟨p, q, hA0, hV, rfl, hfz, hnd⟩ := hW
  have hA : DataW.TrodAll enc Tryz.prog W 0 (fun _ => true) true Tryz.f12.params.toList args.toList ds p := hA0
  rw [Tryz.params12] at hA hval
  obtain ⟨v0, v1, d0, d1, p0, p1, rfl, rfl, rfl, h0, h1⟩ := trodAll_two hA
  obtain ⟨rfl, rfl⟩ := trodVars_none hV
  clear hA0
  simp only [List.append_nil] at hW' hk
  obtain ⟨a0, b0, hp0, hr0⟩ := arg_pair16 (hval 0 77 v0 rfl rfl) h0 (bound hk d0 (by simp))
  obtain ⟨a1, b1, hp1, hr1⟩ := arg_pair16 (hval 1 77 v1 rfl rfl) h1 (bound hk d1 (by simp))
  have hlt : ∀ x ∈ p0 ++ p1, x.block < W.heap.size := fun x hx => hW'.lt x hx
  have walk := (Tryz.surdSquares a0 b0 a1 b1 hp0.1 hp0.2 hp1.1 hp1.2).2 (RS W) W [v0, v1] (fun b j h => h) hL (Reps.cons hr0 (Reps.cons hr1 .nil))
  refine walk.mono fun e W' ⟨v, he, hb, hres⟩ => ?_
  subst he
  have hres' : Rep _ W' (.bool true) v := hres
  cases hres'
  exact ⟨_, rfl, post_of_below (pa := p0 ++ p1) (pv := []) hW' (fun _ _ _ => trodAll_cons_mk (shut_bool Tryz.underlying4 _) trodAll_mk0)
    (fun sp hsp => trodAll_mk2 (WideElems.Trod_stays laidOut (by kernel_rfl) (of_decide_eq_true (by kernel_rfl)) h0 (fun x hx => hb.same (hlt x (List.mem_append_left _ hx))) (fun x hx => hsp x (List.mem_append_left _ hx)))
      (WideElems.Trod_stays laidOut (by kernel_rfl) (of_decide_eq_true (by kernel_rfl)) h1 (fun x hx => hb.same (hlt x (List.mem_append_right _ hx))) (fun x hx => hsp x (List.mem_append_right _ hx))))
    (fun _ _ => rfl) (by simp) hb (ok_one (by kernel_rfl) rfl (okWide_bool_mk Tryz.underlying4 _))⟩

noncomputable def surdSquares_wit : Array Value := #[.agg #[.int .u16 0, .int .u16 0], .agg #[.int .u16 0, .int .u16 0]]

theorem surdSquares_witness (os : Os) {H : Type} (enc : TypeId × Value → H) :
    (Rows.OpenSpec.upto Rows.surdSquaresSpec).preRow enc Tryz.prog Tryz.f12 Rows.surdSquaresUptoRow.domain false Rows.surdSquaresUptoRow.laid ((doorWorld os).forCall (fun _ _ => 0) ⟨#[], surdSquares_wit, []⟩).memory surdSquares_wit := by
  have hw : (DataW.whole enc Tryz.prog ((doorWorld os).forCall (fun _ _ => 0) ⟨#[], surdSquares_wit, []⟩).memory Tryz.f12.params.toList Rows.surdSquaresSpec.vars false surdSquares_wit.toList 8).map (fun x => (x.1, x.2.1)) =
      some ([.agg [.lit (.int .u16 0), .lit (.int .u16 0)], .agg [.lit (.int .u16 0), .lit (.int .u16 0)]], []) := by kernel_rfl
  obtain ⟨⟨x1, x2, x3⟩, hx, hx1⟩ := Option.map_eq_some_iff.1 hw
  simp only [Prod.mk.injEq] at hx1
  obtain ⟨rfl, rfl⟩ := hx1
  exact OpenSpec.preRow_of_cond 8 hx (by kernel_rfl) (fun k hk => by cases hk; kernel_rfl) (by kernel_rfl) (door_met os _)

set_option maxRecDepth 100000 in
theorem surdSquares_lifted (os : Os) (started : os.Started) (H : Type) (enc : TypeId × Value → H) (F : Stop.Interp) :
    ReturnsInHanded {} Tryz.checked os 12 .any ((Rows.OpenSpec.upto Rows.surdSquaresSpec).preRow enc Tryz.prog Tryz.f12 Rows.surdSquaresUptoRow.domain false Rows.surdSquaresUptoRow.laid) (((Rows.OpenSpec.upto Rows.surdSquaresSpec).at F).post enc Tryz.prog Tryz.f12 false true false false) := by
  refine returnsInHanded_of_row (C := Tryz.checked) (s := Rows.OpenSpec.upto Rows.surdSquaresSpec) own started (by kernel_rfl) Tryz.func12
    (witness_row_atRef (enc := enc) (C := Tryz.checked) false (doorWorld os) surdSquares_wit rfl (by kernel_rfl) (by kernel_rfl) (by kernel_rfl) (surdSquares_witness os enc)) ?_
  intro W base args ds gs before hval hW _ hcond _ hL _ _
  exact surdSquares_calls hval hW (ofLaid hL) (hcond _ rfl)

theorem surdSquares_said : Rows.SurdSquaresUptoSaid :=
  OpenClaim.holds_of_cond 12 Tryz.f12 rfl rfl rfl rfl rfl rfl rfl ⟨rfl, rfl, rfl, rfl, rfl⟩ rfl rfl rfl rfl rfl (by kernel_rfl) Tryz.func12 (by kernel_rfl)
    (of_decide_eq_true (by kernel_rfl)) (by unfold Func.isWrapper; first | (rw [if_pos (by decide +kernel)]; kernel_rfl) | (rw [if_neg (by decide +kernel)]; exact ⟨rfl, rfl⟩))
    (fun os started H enc _ F => by rw [OpenClaim.pre_eq_preRow]; exact surdSquares_lifted os started H enc F)

/-- No parameter wants a stand-in; the program's own looks are off. -/
theorem surdSquares_plain (f : FuncId) (fn : Func) (hf : Tryz.pinned.checked.prog.funcNamed "klippe/klippelaw03.SurdSquares" = some f) (hfn : Tryz.pinned.checked.prog.funcs[f]? = some fn) :
    true = Tryz.pinned.checked.prog.looks [] ∧ ∀ (j : Nat) t, fn.params[j]? = some t → Tryz.pinned.checked.prog.wantsStandIn t = false := by
  obtain rfl : f = 12 := Option.some.inj ((show Tryz.prog.funcNamed "klippe/klippelaw03.SurdSquares" = some 12 by kernel_rfl).symm.trans hf) |>.symm
  obtain rfl : fn = Tryz.f12 := (Option.some.inj (Tryz.func12.symm.trans hfn)).symm
  refine ⟨by kernel_rfl, fun j t ht => ?_⟩
  rw [Tryz.params12] at ht
  obtain rfl : t = 77 := by simpa using Array.mem_of_getElem? ht
  exact (show Tryz.prog.wantsStandIn 77 = false by kernel_rfl)

theorem surdSquares_card : Rows.SurdSquaresUptoCardSaid :=
  Claim7.holds_tied_plain_at .later [] _ _ _ _ surdSquares_said (fun _ h => by cases h) (by kernel_rfl) (fun _ h => by cases h) surdSquaresUpto_row_tie rfl ⟨rfl, rfl⟩ (by kernel_rfl) rfl surdSquares_plain (by kernel_rfl)
#print axioms surdSquares_card
end Go.Proofs.YtpddmheiacgejaaGreatDoor
