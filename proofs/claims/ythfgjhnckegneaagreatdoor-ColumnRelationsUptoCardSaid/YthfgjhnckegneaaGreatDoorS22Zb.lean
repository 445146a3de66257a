/-
  SEAT 22: ColumnRelations: the card. Own work.
-/
import Derived.Test.YthfgjhnckegneaaGreatDoorS22Y2
import Derived.Test.YthfgjhnckegneaaGreatDoorS22W
namespace Go.Pi
open Go
variable {P : Program} {N : Nat} {t : TypeId} {ds : List D}
theorem Sh.toStr (h : Sh P N t ds) (hu : P.underlying t = some .string) : ∃ s, ds = [.str s] ∧ s.length ≤ N := by
  cases h with
  | int k' n hu' hn => rw [hu] at hu'; cases hu'
  | bool b hu' => rw [hu] at hu'; cases hu'
  | str s hu' hs => exact ⟨s, rfl, hs⟩
  | sl rs hu' => rw [hu] at hu'; cases hu'
  | arr rs hu' => rw [hu] at hu'; cases hu'
  | struct rs hu' => rw [hu] at hu'; cases hu'
end Go.Pi
namespace Go.Proofs.YthfgjhnckegneaaGreatDoor
open Go Go.Pi Go.ChangeShapes Go.WideShapes Go.ChangeAt Go.RowKit

theorem sh_rel {N : Nat} {ds : List D} (h : Sh Tryz.prog N 66 ds) : ∃ x : Rl, ds = x.d := by
  obtain ⟨rs, rfl, hl, h⟩ := h.toStruct Tryz.underlying66
  match rs, hl with
  | [r0, r1, r2], _ =>
    obtain ⟨k, rfl, _⟩ := Sh.toInt (h 0 _ r0 rfl rfl) Tryz.underlying3
    obtain ⟨u, rfl, _⟩ := Sh.toStr (h 1 _ r1 rfl rfl) Tryz.underlying9
    obtain ⟨o, rfl, _⟩ := Sh.toStr (h 2 _ r2 rfl rfl) Tryz.underlying9
    exact ⟨⟨k, u, o⟩, rfl⟩

theorem sh_rels {N : Nat} : ∀ {rs : List (List D)}, (∀ r ∈ rs, Sh Tryz.prog N 66 r) → ∃ l : List Rl, rs.length = l.length ∧ rs.flatten = rls l
  | [], _ => ⟨[], rfl, rfl⟩
  | r :: rs, h => by
    obtain ⟨x, rfl⟩ := sh_rel (h r (List.mem_cons_self ..))
    obtain ⟨l, h1, h2⟩ := sh_rels (rs := rs) fun r hr => h r (List.mem_cons_of_mem _ hr)
    exact ⟨x :: l, by simp [h1], by simp [h2, rls, rows]⟩

set_option maxRecDepth 100000 in
theorem arg_rels {H : Type} {enc : TypeId × Value → H} {W : World} {base b : Nat} {sp : Nat → Bool} {held : Bool} {v : Value} {d : DataW H} {ps : List MemPlace}
    (hv : Value.okWide Tryz.prog W .any b 63 v) (h : DataW.Trod enc Tryz.prog W base sp held 63 v d ps) (hd : Rows.uptoBulk d ≤ 1048576) : ∃ r : List Rl, r.length ≤ 1048576 ∧ Rep (RS W) W (.sl r.length (rls r)) v := by
  obtain ⟨a, n, c, rfl⟩ := okWide_slice Tryz.underlying63 hv
  obtain ⟨fuel, h⟩ := h
  obtain ⟨ds, h1, h2, h3⟩ := reps_of_trod (N := 1048576) bulk 8 63 fuel [.slice a n c] (d, ps) (by kernel_rfl) h hd
  obtain ⟨rs, rfl, hl, hr⟩ := h3.toSl Tryz.underlying63
  obtain ⟨l, e1, e2⟩ := sh_rels hr
  refine ⟨l, by omega, ?_⟩
  rw [← e1, ← e2]
  exact h1.2 0 _ _ rfl rfl

set_option maxRecDepth 100000 in
theorem columnRelations_calls {H : Type} {enc : TypeId × Value → H} {W : World} {base : Nat} {args : Array Value} {ds gs : List (DataW H)} {before : List MemPlace}
    (hval : ∀ (j : Nat) t v, Tryz.f6.params[j]? = some t → args[j]? = some v → Value.okWide Tryz.prog W .any base t v)
    (hW : DataW.Whole enc Tryz.prog Tryz.f6.params.toList Rows.columnRelationsSpec.vars false W args.toList ds gs before) (hL : Tryz.L W) (hk : Rows.uptoSmall H (ds ++ gs) = true) :
    Calls Tryz.prog 6 args W fun e W' => ∃ v, e = .returned v ∧ Rows.columnRelationsSpec.post enc Tryz.prog Tryz.f6 false true false false W args v W' := by
  have hW' := hW
  obtain ⟨p, q, hA0, hV, rfl, hfz, hnd⟩ := hW
  have hA : DataW.TrodAll enc Tryz.prog W 0 (fun _ => true) true Tryz.f6.params.toList args.toList ds p := hA0
  rw [Tryz.params6] at hA hval
  obtain ⟨v0, v1, d0, d1, p0, p1, rfl, rfl, rfl, h0, h1⟩ := trodAll_two hA
  obtain ⟨rfl, rfl⟩ := trodVars_none hV
  clear hA0
  simp only [List.append_nil] at hW' hk
  obtain ⟨pl, hp, hr⟩ := arg_plan (hval 0 26 v0 rfl rfl) h0 (bound hk d0 (by simp))
  obtain ⟨r, hp1, hr1⟩ := arg_rels (hval 1 63 v1 rfl rfl) h1 (bound hk d1 (by simp))
  have hlt : ∀ x ∈ p0 ++ p1, x.block < W.heap.size := fun x hx => hW'.lt x hx
  have walk := (Tryz.c6 pl hp r hp1).2 (RS W) W [v0, v1] (fun b j h => h) hL (Reps.cons hr (Reps.cons hr1 .nil))
  refine walk.mono fun e W' ⟨v, he, hb, hres⟩ => ?_
  subst he
  have hres' : Rep _ W' (.bool true) v := hres
  cases hres'
  exact ⟨_, rfl, post_of_below (pa := p0 ++ p1) (pv := []) hW' (fun _ _ _ => trodAll_cons_mk (shut_bool Tryz.underlying4 _) trodAll_mk0)
    (fun sp hsp => trodAll_mk2 (WideElems.Trod_stays laidOut (by kernel_rfl) (of_decide_eq_true (by kernel_rfl)) h0 (fun x hx => hb.same (hlt x (List.mem_append_left _ hx))) (fun x hx => hsp x (List.mem_append_left _ hx)))
      (WideElems.Trod_stays laidOut (by kernel_rfl) (of_decide_eq_true (by kernel_rfl)) h1 (fun x hx => hb.same (hlt x (List.mem_append_right _ hx))) (fun x hx => hsp x (List.mem_append_right _ hx))))
    (fun _ _ => rfl) (by simp) hb (ok_one (by kernel_rfl) rfl (okWide_bool_mk Tryz.underlying4 _))⟩

noncomputable def wit6 : Array Value := #[.agg #[.slice none 0 0, .int .u8 0, .int .u8 0, .int .u8 0, .int .u8 0, .int .u8 0, .int .u8 0, .int .u8 0, .int .u8 0], .slice none 0 0]

theorem columnRelations_witness (os : Os) {H : Type} (enc : TypeId × Value → H) :
    (Rows.OpenSpec.upto Rows.columnRelationsSpec).preRow enc Tryz.prog Tryz.f6 Rows.columnRelationsUptoRow.domain false Rows.columnRelationsUptoRow.laid ((doorWorld os).forCall (fun _ _ => 0) ⟨#[], wit6, []⟩).memory wit6 := by
  have hw : (DataW.whole enc Tryz.prog ((doorWorld os).forCall (fun _ _ => 0) ⟨#[], wit6, []⟩).memory Tryz.f6.params.toList Rows.columnRelationsSpec.vars false wit6.toList 8).map (fun x => (x.1, x.2.1)) =
      some ([.agg [.nil, .agg [.agg [.lit (.int .u8 0), .lit (.int .u8 0)], .agg [.lit (.int .u8 0), .lit (.int .u8 0)], .agg [.lit (.int .u8 0), .lit (.int .u8 0)], .agg [.lit (.int .u8 0), .lit (.int .u8 0)]]], .nil], []) := by kernel_rfl
  obtain ⟨⟨x1, x2, x3⟩, hx, hx1⟩ := Option.map_eq_some_iff.1 hw
  simp only [Prod.mk.injEq] at hx1
  obtain ⟨rfl, rfl⟩ := hx1
  exact OpenSpec.preRow_of_cond 8 hx (by kernel_rfl) (fun k hk => by cases hk; kernel_rfl) (by kernel_rfl) (door_met os _)

set_option maxRecDepth 100000 in
theorem columnRelations_lifted (os : Os) (started : os.Started) (H : Type) (enc : TypeId × Value → H) (F : Stop.Interp) :
    ReturnsInHanded {} Tryz.checked os 6 .any ((Rows.OpenSpec.upto Rows.columnRelationsSpec).preRow enc Tryz.prog Tryz.f6 Rows.columnRelationsUptoRow.domain false Rows.columnRelationsUptoRow.laid) (((Rows.OpenSpec.upto Rows.columnRelationsSpec).at F).post enc Tryz.prog Tryz.f6 false true false false) := by
  refine returnsInHanded_of_row (C := Tryz.checked) (s := Rows.OpenSpec.upto Rows.columnRelationsSpec) own started (by kernel_rfl) Tryz.func6
    (witness_row_atRef (enc := enc) (C := Tryz.checked) false (doorWorld os) wit6 rfl (by kernel_rfl) (by kernel_rfl) (by kernel_rfl) (columnRelations_witness os enc)) ?_
  intro W base args ds gs before hval hW _ hcond _ hL _ _
  exact columnRelations_calls hval hW (ofLaid hL) (hcond _ rfl)

theorem columnRelations_said : Rows.ColumnRelationsUptoSaid :=
  OpenClaim.holds_of_cond 6 Tryz.f6 rfl rfl rfl rfl rfl rfl rfl ⟨rfl, rfl, rfl, rfl, rfl⟩ rfl rfl rfl rfl rfl (by kernel_rfl) Tryz.func6 (by kernel_rfl)
    (of_decide_eq_true (by kernel_rfl)) (by unfold Func.isWrapper; first | (rw [if_pos (by decide +kernel)]; kernel_rfl) | (rw [if_neg (by decide +kernel)]; exact ⟨rfl, rfl⟩))
    (fun os started H enc _ F => by rw [OpenClaim.pre_eq_preRow]; exact columnRelations_lifted os started H enc F)

/-- No parameter wants a stand-in; the program's own looks are off. -/
theorem columnRelations_plain (f : FuncId) (fn : Func) (hf : Tryz.pinned.checked.prog.funcNamed "klippe/klippelaw22.ColumnRelations" = some f) (hfn : Tryz.pinned.checked.prog.funcs[f]? = some fn) :
    true = Tryz.pinned.checked.prog.looks [] ∧ ∀ (j : Nat) t, fn.params[j]? = some t → Tryz.pinned.checked.prog.wantsStandIn t = false := by
  obtain rfl : f = 6 := Option.some.inj ((show Tryz.prog.funcNamed "klippe/klippelaw22.ColumnRelations" = some 6 by kernel_rfl).symm.trans hf) |>.symm
  obtain rfl : fn = Tryz.f6 := (Option.some.inj (Tryz.func6.symm.trans hfn)).symm
  refine ⟨by kernel_rfl, fun j t ht => ?_⟩
  rw [Tryz.params6] at ht
  obtain rfl | rfl : t = 26 ∨ t = 63 := by simpa using Array.mem_of_getElem? ht
  · exact (show Tryz.prog.wantsStandIn 26 = false by kernel_rfl)
  · exact (show Tryz.prog.wantsStandIn 63 = false by kernel_rfl)

theorem columnRelations_card : Rows.ColumnRelationsUptoCardSaid :=
  Claim7.holds_tied_plain_at .later [] _ _ _ _ columnRelations_said (fun _ h => by cases h) (by kernel_rfl) (fun _ h => by cases h) columnRelationsUpto_row_tie rfl ⟨rfl, rfl⟩ (by kernel_rfl) rfl columnRelations_plain (by kernel_rfl)
#print axioms columnRelations_card
end Go.Proofs.YthfgjhnckegneaaGreatDoor
