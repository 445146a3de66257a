/-
  TopCertificatesAreAccepted, the second form, as a card: for every input within the row's bound the law returns true and leaves its arguments alone. Own work.
-/
import Derived.Test.YtijkmdpdedagdaaGreatDoorSi
import Derived.Test.YtijkmdpdedagdaaGreatDoorSg
set_option linter.unusedVariables false
set_option linter.unusedSimpArgs false
namespace Go.Proofs.YtijkmdpdedagdaaGreatDoor
open Go Go.Pi Go.ChangeShapes Go.WideShapes Go.ChangeAt Go.RowKit

set_option maxRecDepth 100000 in
theorem topCertificatesAreAccepted_calls {H : Type} {enc : TypeId × Value → H} {W : World} {base : Nat} {args : Array Value} {ds gs : List (DataW H)} {before : List MemPlace}
    (hval : ∀ (j : Nat) t v, Tryz.f3.params[j]? = some t → args[j]? = some v → Value.okWide Tryz.prog W .any base t v)
    (hW : DataW.Whole enc Tryz.prog Tryz.f3.params.toList Rows.topCertificatesAreAcceptedSpec.vars false W args.toList ds gs before) (hL : Tryz.L W) (hk : Rows.uptoSmall H (ds ++ gs) = true) :
    Calls Tryz.prog 3 args W fun e W' => ∃ v, e = .returned v ∧ Rows.topCertificatesAreAcceptedSpec.post enc Tryz.prog Tryz.f3 false true false false W args v W' := by
  have hW' := hW
  obtain ⟨p, q, hA0, hV, rfl, hfz, hnd⟩ := hW
  have hA : DataW.TrodAll enc Tryz.prog W 0 (fun _ => true) true Tryz.f3.params.toList args.toList ds p := hA0
  rw [Tryz.params3] at hA hval
  obtain ⟨v0, d0, rfl, rfl, h0⟩ := trodAll_one hA
  obtain ⟨rfl, rfl⟩ := trodVars_none hV
  clear hA0
  simp only [List.append_nil] at hW' hk
  obtain ⟨l0, hp0, hr0⟩ := arg_s8s (hval 0 22 v0 rfl rfl) h0 (bound hk d0 (by simp))
  have hlt : ∀ x ∈ p, x.block < W.heap.size := fun x hx => by simpa using hW'.lt x hx
  have walk := (Tryz.topCert l0 hp0.1 hp0.2).2 (RS W) W [v0] (fun b j h => h) hL (Reps.cons hr0 .nil)
  refine walk.mono fun e W' ⟨v, he, hb, hres⟩ => ?_
  subst he
  have hres' : Rep _ W' (.bool true) v := hres
  cases hres'
  exact ⟨_, rfl, post_of_below (pa := p) (pv := []) hW' (fun _ _ _ => trodAll_cons_mk (shut_bool Tryz.underlying4 _) trodAll_mk0)
    (fun sp hsp => trodAll_mk1 (WideElems.Trod_stays laidOut (by kernel_rfl) (of_decide_eq_true (by kernel_rfl)) h0 (fun x hx => hb.same (hlt x hx)) (fun x hx => hsp x (by simpa using hx))))
    (fun _ _ => rfl) (by simp) hb (ok_one (by kernel_rfl) rfl (okWide_bool_mk Tryz.underlying4 _))⟩

noncomputable def topCertificatesAreAccepted_wit : Array Value := #[.slice none 0 0]

theorem topCertificatesAreAccepted_witness (os : Os) {H : Type} (enc : TypeId × Value → H) :
    (Rows.OpenSpec.upto Rows.topCertificatesAreAcceptedSpec).preRow enc Tryz.prog Tryz.f3 Rows.topCertificatesAreAcceptedUptoRow.domain false Rows.topCertificatesAreAcceptedUptoRow.laid ((doorWorld os).forCall (fun _ _ => 0) ⟨#[], topCertificatesAreAccepted_wit, []⟩).memory topCertificatesAreAccepted_wit := by
  have hw : (DataW.whole enc Tryz.prog ((doorWorld os).forCall (fun _ _ => 0) ⟨#[], topCertificatesAreAccepted_wit, []⟩).memory Tryz.f3.params.toList Rows.topCertificatesAreAcceptedSpec.vars false topCertificatesAreAccepted_wit.toList 8).map (fun x => (x.1, x.2.1)) =
      some ([.nil], []) := by kernel_rfl
  obtain ⟨⟨x1, x2, x3⟩, hx, hx1⟩ := Option.map_eq_some_iff.1 hw
  simp only [Prod.mk.injEq] at hx1
  obtain ⟨rfl, rfl⟩ := hx1
  exact OpenSpec.preRow_of_cond 8 hx (by kernel_rfl) (fun k hk => by cases hk; kernel_rfl) (by kernel_rfl) (door_met os _)

set_option maxRecDepth 100000 in
theorem topCertificatesAreAccepted_lifted (os : Os) (started : os.Started) (H : Type) (enc : TypeId × Value → H) (F : Stop.Interp) :
    ReturnsInHanded {} Tryz.checked os 3 .any ((Rows.OpenSpec.upto Rows.topCertificatesAreAcceptedSpec).preRow enc Tryz.prog Tryz.f3 Rows.topCertificatesAreAcceptedUptoRow.domain false Rows.topCertificatesAreAcceptedUptoRow.laid) (((Rows.OpenSpec.upto Rows.topCertificatesAreAcceptedSpec).at F).post enc Tryz.prog Tryz.f3 false true false false) := by
  refine returnsInHanded_of_row (C := Tryz.checked) (s := Rows.OpenSpec.upto Rows.topCertificatesAreAcceptedSpec) own started (by kernel_rfl) Tryz.func3
    (witness_row_atRef (enc := enc) (C := Tryz.checked) false (doorWorld os) topCertificatesAreAccepted_wit (World.laidAll_os _ _ _) (by kernel_rfl) (by kernel_rfl) (by kernel_rfl) (topCertificatesAreAccepted_witness os enc)) ?_
  intro W base args ds gs before hval hW _ hcond _ hL _ _
  exact topCertificatesAreAccepted_calls hval hW (ofLaid hL) (hcond _ rfl)

theorem topCertificatesAreAccepted_said : Rows.TopCertificatesAreAcceptedUptoSaid :=
  OpenClaim.holds_of_cond 3 Tryz.f3 rfl rfl rfl rfl rfl rfl rfl ⟨rfl, rfl, rfl, rfl, rfl⟩ rfl rfl rfl rfl rfl (by kernel_rfl) Tryz.func3 (by kernel_rfl)
    (of_decide_eq_true (by kernel_rfl)) (by unfold Func.isWrapper; first | (rw [if_pos (by decide +kernel)]; kernel_rfl) | (rw [if_neg (by decide +kernel)]; exact ⟨rfl, rfl⟩))
    (fun os started H enc _ F => by rw [OpenClaim.pre_eq_preRow]; exact topCertificatesAreAccepted_lifted os started H enc F)

/-- No parameter wants a stand-in; the program's own looks are off. -/
theorem topCertificatesAreAccepted_plain (f : FuncId) (fn : Func) (hf : Tryz.pinned.checked.prog.funcNamed "klippe/klippetop.TopCertificatesAreAccepted" = some f) (hfn : Tryz.pinned.checked.prog.funcs[f]? = some fn) :
    true = Tryz.pinned.checked.prog.looks [] ∧ ∀ (j : Nat) t, fn.params[j]? = some t → Tryz.pinned.checked.prog.wantsStandIn t = false := by
  obtain rfl : f = 3 := Option.some.inj ((show Tryz.prog.funcNamed "klippe/klippetop.TopCertificatesAreAccepted" = some 3 by kernel_rfl).symm.trans hf) |>.symm
  obtain rfl : fn = Tryz.f3 := (Option.some.inj (Tryz.func3.symm.trans hfn)).symm
  refine ⟨by kernel_rfl, fun j t ht => ?_⟩
  rw [Tryz.params3] at ht
  obtain rfl : t = 22 := by simpa using Array.mem_of_getElem? ht
  exact (show Tryz.prog.wantsStandIn 22 = false by kernel_rfl)

theorem topCertificatesAreAccepted_card : Rows.TopCertificatesAreAcceptedUptoCardSaid :=
  Claim7.holds_tied_plain_at .later [] _ _ _ _ topCertificatesAreAccepted_said (fun _ h => by cases h) (by kernel_rfl) (fun _ h => by cases h) topCertificatesAreAcceptedUpto_row_tie rfl ⟨rfl, rfl⟩ (by kernel_rfl) rfl topCertificatesAreAccepted_plain (by kernel_rfl)
#print axioms topCertificatesAreAccepted_card
end Go.Proofs.YtijkmdpdedagdaaGreatDoor
