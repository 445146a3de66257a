/-
  SEAT 22: ColumnChecks: the card. Own work.
-/
import Derived.Test.YthfgjhnckegneaaGreatDoorSj
import Derived.Test.YthfgjhnckegneaaGreatDoorSi
namespace Go.Proofs.YthfgjhnckegneaaGreatDoor
open Go Go.Pi Go.ChangeShapes Go.WideShapes Go.ChangeAt Go.RowKit

theorem sh_lay {N : Nat} {ds : List D} (h : Sh Tryz.prog N 39 ds) : ∃ x : Lay, ds = x.d := by
  obtain ⟨rs, rfl, hl, h⟩ := h.toStruct Tryz.underlying39
  match rs, hl with
  | [r0, r1, r2], _ =>
    obtain ⟨u, rfl, _⟩ := Sh.toStr (h 0 _ r0 rfl rfl) Tryz.underlying9
    obtain ⟨a, rfl, _⟩ := Sh.toStr (h 1 _ r1 rfl rfl) Tryz.underlying37
    obtain ⟨b, rfl, _⟩ := Sh.toStr (h 2 _ r2 rfl rfl) Tryz.underlying37
    exact ⟨⟨u, a, b⟩, rfl⟩
theorem sh_lays {N : Nat} : ∀ {rs : List (List D)}, (∀ r ∈ rs, Sh Tryz.prog N 39 r) → ∃ l : List Lay, rs.length = l.length ∧ rs.flatten = lays l
  | [], _ => ⟨[], rfl, rfl⟩
  | r :: rs, h => by
    obtain ⟨x, rfl⟩ := sh_lay (h r (List.mem_cons_self ..))
    obtain ⟨l, h1, h2⟩ := sh_lays (rs := rs) fun r hr => h r (List.mem_cons_of_mem _ hr)
    exact ⟨x :: l, by simp [h1], by simp [h2, rows]⟩

set_option maxRecDepth 100000 in
theorem arg_lays {H : Type} {enc : TypeId × Value → H} {W : World} {base b : Nat} {sp : Nat → Bool} {held : Bool} {v : Value} {d : DataW H} {ps : List MemPlace}
    (hv : Value.okWide Tryz.prog W .any b 28 v) (h : DataW.Trod enc Tryz.prog W base sp held 28 v d ps) (hd : Rows.uptoBulk d ≤ 1048576) : ∃ l : List Lay, Rep (RS W) W (.sl l.length (lays l)) v := by
  obtain ⟨a, n, c, rfl⟩ := okWide_slice Tryz.underlying28 hv
  obtain ⟨fuel, h⟩ := h
  obtain ⟨ds, h1, h2, h3⟩ := reps_of_trod (N := 1048576) bulk 8 28 fuel [.slice a n c] (d, ps) (by kernel_rfl) h hd
  obtain ⟨rs, rfl, hl, hr⟩ := h3.toSl Tryz.underlying28
  obtain ⟨l, e1, e2⟩ := sh_lays hr
  refine ⟨l, ?_⟩
  rw [← e1, ← e2]
  exact h1.2 0 _ _ rfl rfl

set_option maxRecDepth 100000 in
theorem columnChecks_calls {H : Type} {enc : TypeId × Value → H} {W : World} {base : Nat} {args : Array Value} {ds gs : List (DataW H)} {before : List MemPlace}
    (hval : ∀ (j : Nat) t v, Tryz.f10.params[j]? = some t → args[j]? = some v → Value.okWide Tryz.prog W .any base t v)
    (hW : DataW.Whole enc Tryz.prog Tryz.f10.params.toList Rows.columnChecksSpec.vars false W args.toList ds gs before) (hL : Tryz.L W) (hk : Rows.uptoSmall H (ds ++ gs) = true) :
    Calls Tryz.prog 10 args W fun e W' => ∃ v, e = .returned v ∧ Rows.columnChecksSpec.post enc Tryz.prog Tryz.f10 false true false false W args v W' := by
  have hW' := hW
  obtain ⟨p, q, hA0, hV, rfl, hfz, hnd⟩ := hW
  have hA : DataW.TrodAll enc Tryz.prog W 0 (fun _ => true) true Tryz.f10.params.toList args.toList ds p := hA0
  rw [Tryz.params10] at hA hval
  obtain ⟨v0, d0, rfl, rfl, h0⟩ := trodAll_one hA
  obtain ⟨rfl, rfl⟩ := trodVars_none hV
  clear hA0
  simp only [List.append_nil] at hW' hk
  obtain ⟨l, hr⟩ := arg_lays (hval 0 28 v0 rfl rfl) h0 (bound hk d0 (by simp))
  have hlt : ∀ x ∈ p, x.block < W.heap.size := fun x hx => by simpa using hW'.lt x hx
  have walk := (Tryz.c10 l).2 (RS W) W [v0] (fun b j h => h) hL ⟨rfl, fun i d v hd hv => by
    match i, hd, hv with
    | 0, hd, hv => simp at hd hv; subst hd; subst hv; exact hr⟩
  refine walk.mono fun e W' ⟨v, he, hb, hres⟩ => ?_
  subst he
  have hres' : Rep _ W' (.bool true) v := hres
  cases hres'
  exact ⟨_, rfl, post_of_below (pa := p) (pv := []) hW' (fun _ _ _ => trodAll_cons_mk (shut_bool Tryz.underlying4 _) trodAll_mk0)
    (fun sp hsp => trodAll_mk1 (WideElems.Trod_stays laidOut (by kernel_rfl) (of_decide_eq_true (by kernel_rfl)) h0 (fun x hx => hb.same (hlt x hx)) (fun x hx => hsp x (by simpa using hx))))
    (fun _ _ => rfl) (by simp) hb (ok_one (by kernel_rfl) rfl (okWide_bool_mk Tryz.underlying4 _))⟩

noncomputable def wit : Array Value := #[.slice none 0 0]

theorem columnChecks_witness (os : Os) {H : Type} (enc : TypeId × Value → H) :
    (Rows.OpenSpec.upto Rows.columnChecksSpec).preRow enc Tryz.prog Tryz.f10 Rows.columnChecksUptoRow.domain false Rows.columnChecksUptoRow.laid ((doorWorld os).forCall (fun _ _ => 0) ⟨#[], wit, []⟩).memory wit := by
  have hw : (DataW.whole enc Tryz.prog ((doorWorld os).forCall (fun _ _ => 0) ⟨#[], wit, []⟩).memory Tryz.f10.params.toList Rows.columnChecksSpec.vars false wit.toList 8).map (fun x => (x.1, x.2.1)) =
      some ([.nil], []) := by kernel_rfl
  obtain ⟨⟨x1, x2, x3⟩, hx, hx1⟩ := Option.map_eq_some_iff.1 hw
  simp only [Prod.mk.injEq] at hx1
  obtain ⟨rfl, rfl⟩ := hx1
  exact OpenSpec.preRow_of_cond 8 hx (by kernel_rfl) (fun k hk => by cases hk; kernel_rfl) (by kernel_rfl) (door_met os _)

set_option maxRecDepth 100000 in
theorem columnChecks_lifted (os : Os) (started : os.Started) (H : Type) (enc : TypeId × Value → H) (F : Stop.Interp) :
    ReturnsInHanded {} Tryz.checked os 10 .any ((Rows.OpenSpec.upto Rows.columnChecksSpec).preRow enc Tryz.prog Tryz.f10 Rows.columnChecksUptoRow.domain false Rows.columnChecksUptoRow.laid) (((Rows.OpenSpec.upto Rows.columnChecksSpec).at F).post enc Tryz.prog Tryz.f10 false true false false) := by
  refine returnsInHanded_of_row (C := Tryz.checked) (s := Rows.OpenSpec.upto Rows.columnChecksSpec) own started (by kernel_rfl) Tryz.func10
    (witness_row_atRef (enc := enc) (C := Tryz.checked) false (doorWorld os) wit rfl (by kernel_rfl) (by kernel_rfl) (by kernel_rfl) (columnChecks_witness os enc)) ?_
  intro W base args ds gs before hval hW _ hcond _ hL _ _
  exact columnChecks_calls hval hW (ofLaid hL) (hcond _ rfl)

theorem columnChecks_said : Rows.ColumnChecksUptoSaid :=
  OpenClaim.holds_of_cond 10 Tryz.f10 rfl rfl rfl rfl rfl rfl rfl ⟨rfl, rfl, rfl, rfl, rfl⟩ rfl rfl rfl rfl rfl (by kernel_rfl) Tryz.func10 (by kernel_rfl)
    (of_decide_eq_true (by kernel_rfl)) (by unfold Func.isWrapper; first | (rw [if_pos (by decide +kernel)]; kernel_rfl) | (rw [if_neg (by decide +kernel)]; exact ⟨rfl, rfl⟩))
    (fun os started H enc _ F => by rw [OpenClaim.pre_eq_preRow]; exact columnChecks_lifted os started H enc F)

/-- No parameter wants a stand-in; the program's own looks are off. -/
theorem columnChecks_plain (f : FuncId) (fn : Func) (hf : Tryz.pinned.checked.prog.funcNamed "klippe/klippelaw22.ColumnChecks" = some f) (hfn : Tryz.pinned.checked.prog.funcs[f]? = some fn) :
    true = Tryz.pinned.checked.prog.looks [] ∧ ∀ (j : Nat) t, fn.params[j]? = some t → Tryz.pinned.checked.prog.wantsStandIn t = false := by
  obtain rfl : f = 10 := Option.some.inj ((show Tryz.prog.funcNamed "klippe/klippelaw22.ColumnChecks" = some 10 by kernel_rfl).symm.trans hf) |>.symm
  obtain rfl : fn = Tryz.f10 := (Option.some.inj (Tryz.func10.symm.trans hfn)).symm
  refine ⟨by kernel_rfl, fun j t ht => ?_⟩
  rw [Tryz.params10] at ht
  obtain rfl : t = 28 := by simpa using Array.mem_of_getElem? ht
  exact (show Tryz.prog.wantsStandIn 28 = false by kernel_rfl)

theorem columnChecks_card : Rows.ColumnChecksUptoCardSaid :=
  Claim7.holds_tied_plain_at .later [] _ _ _ _ columnChecks_said (fun _ h => by cases h) (by kernel_rfl) (fun _ h => by cases h) columnChecksUpto_row_tie rfl ⟨rfl, rfl⟩ (by kernel_rfl) rfl columnChecks_plain (by kernel_rfl)
#print axioms columnChecks_card
end Go.Proofs.YthfgjhnckegneaaGreatDoor
