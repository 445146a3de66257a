/-
  SEAT 22: ColumnTexts: the card. Own work.
-/
import Derived.Test.YthfgjhnckegneaaGreatDoorS22Y
namespace Go.Pi
open Go

variable {P : Program} {N : Nat} {t : TypeId} {ds : List D}
theorem Sh.toInt {k : IntKind} (h : Sh P N t ds) (hu : P.underlying t = some (.int k)) : ∃ n, ds = [.int k n] ∧ (Lit.int k n).wf = true := by
  cases h with
  | int k' n hu' hn => rw [hu] at hu'; cases hu'; exact ⟨n, rfl, hn⟩
  | bool b hu' => rw [hu] at hu'; cases hu'
  | str s hu' => rw [hu] at hu'; cases hu'
  | sl rs hu' => rw [hu] at hu'; cases hu'
  | arr rs hu' => rw [hu] at hu'; cases hu'
  | struct rs hu' => rw [hu] at hu'; cases hu'
theorem Sh.toSl {e : TypeId} (h : Sh P N t ds) (hu : P.underlying t = some (.slice e)) : ∃ rs : List (List D), ds = [.sl rs.length rs.flatten] ∧ rs.length ≤ N ∧ ∀ r ∈ rs, Sh P N e r := by
  cases h with
  | int k' n hu' hn => rw [hu] at hu'; cases hu'
  | bool b hu' => rw [hu] at hu'; cases hu'
  | str s hu' => rw [hu] at hu'; cases hu'
  | sl rs hu' hl h hc => rw [hu] at hu'; cases hu'; exact ⟨rs, rfl, hl, h⟩
  | arr rs hu' => rw [hu] at hu'; cases hu'
  | struct rs hu' => rw [hu] at hu'; cases hu'
theorem Sh.toArr {e : TypeId} {n : Nat} (h : Sh P N t ds) (hu : P.underlying t = some (.array n e)) : ∃ rs : List (List D), ds = rs.flatten ∧ rs.length = n ∧ ∀ r ∈ rs, Sh P N e r := by
  cases h with
  | int k' n hu' hn => rw [hu] at hu'; cases hu'
  | bool b hu' => rw [hu] at hu'; cases hu'
  | str s hu' => rw [hu] at hu'; cases hu'
  | sl rs hu' hl h hc => rw [hu] at hu'; cases hu'
  | arr rs hu' hl h hc => rw [hu] at hu'; cases hu'; exact ⟨rs, rfl, hl, h⟩
  | struct rs hu' => rw [hu] at hu'; cases hu'
theorem Sh.toStruct {fs : Array Field} (h : Sh P N t ds) (hu : P.underlying t = some (.struct fs)) : ∃ rs : List (List D), ds = rs.flatten ∧ rs.length = fs.size ∧ ∀ (i : Nat) (f : Field) (r : List D), fs[i]? = some f → rs[i]? = some r → Sh P N f.type r := by
  cases h with
  | int k' n hu' hn => rw [hu] at hu'; cases hu'
  | bool b hu' => rw [hu] at hu'; cases hu'
  | str s hu' => rw [hu] at hu'; cases hu'
  | sl rs hu' hl h hc => rw [hu] at hu'; cases hu'
  | arr rs hu' hl h hc => rw [hu] at hu'; cases hu'
  | struct rs hu' hl h hc => rw [hu] at hu'; cases hu'; exact ⟨rs, rfl, hl, h⟩
end Go.Pi
namespace Go.Proofs.YthfgjhnckegneaaGreatDoor
open Go Go.Pi Go.ChangeShapes Go.WideShapes Go.ChangeAt Go.RowKit

/-- a byte -/
theorem sh_u8 {N : Nat} {ds : List D} (h : Sh Tryz.prog N 5 ds) : ∃ n, ds = [.int .u8 n] ∧ isByte n := by
  obtain ⟨n, rfl, hn⟩ := h.toInt Tryz.underlying5
  refine ⟨n, rfl, ?_⟩
  simp only [Lit.wf, Bool.and_eq_true, decide_eq_true_eq] at hn
  have e1 : IntKind.u8.min = 0 := by decide
  have e2 : IntKind.u8.max = 255 := by decide
  rw [e1, e2] at hn
  exact ⟨hn.1, by omega⟩

theorem sh_bytes {N : Nat} : ∀ {rs : List (List D)}, (∀ r ∈ rs, Sh Tryz.prog N 5 r) → ∃ us : List Int, rs.length = us.length ∧ rs.flatten = ints .u8 us ∧ ∀ x ∈ us, isByte x
  | [], _ => ⟨[], rfl, rfl, fun x hx => by cases hx⟩
  | r :: rs, h => by
    obtain ⟨n, rfl, hn⟩ := sh_u8 (h r (List.mem_cons_self ..))
    obtain ⟨us, h1, h2, h3⟩ := sh_bytes (rs := rs) fun r hr => h r (List.mem_cons_of_mem _ hr)
    refine ⟨n :: us, by simp [h1], by simp [h2, ints], fun x hx => ?_⟩
    rcases List.mem_cons.1 hx with rfl | hx
    · exact hn
    · exact h3 x hx

/-- two bytes -/
theorem sh_pair {N : Nat} {ds : List D} (h : Sh Tryz.prog N 23 ds) : ∃ a b, ds = [.int .u8 a, .int .u8 b] ∧ isByte a ∧ isByte b := by
  obtain ⟨rs, rfl, hl, h⟩ := h.toArr Tryz.underlying23
  obtain ⟨us, h1, h2, h3⟩ := sh_bytes h
  match us, h1.symm.trans hl with
  | [a, b], _ => exact ⟨a, b, h2, h3 a (by simp), h3 b (by simp)⟩

/-- WHAT IS READ AT THE TYPE OF PLANS IS A PLAN -/
theorem sh_plan {N : Nat} {ds : List D} (hN : N ≤ 140737488355327) (h : Sh Tryz.prog N 26 ds) : ∃ p : Pl, p.ok ∧ p.d = .agg ds := by
  obtain ⟨rs, rfl, hl, h⟩ := h.toStruct Tryz.underlying26
  match rs, hl with
  | [r0, r1], _ =>
    have h0 := h 0 _ r0 rfl rfl
    have h1 := h 1 _ r1 rfl rfl
    obtain ⟨qs, rfl, hq, hq'⟩ := Sh.toSl h0 Tryz.underlying22
    obtain ⟨us, u1, u2, u3⟩ := sh_bytes hq'
    obtain ⟨zs, rfl, ha, ha'⟩ := Sh.toArr h1 Tryz.underlying24
    match zs, ha with
    | [x0, x1, x2, x3], _ =>
      obtain ⟨a0, b0, rfl, p0, q0⟩ := sh_pair (ha' x0 (by simp))
      obtain ⟨a1, b1, rfl, p1, q1⟩ := sh_pair (ha' x1 (by simp))
      obtain ⟨a2, b2, rfl, p2, q2⟩ := sh_pair (ha' x2 (by simp))
      obtain ⟨a3, b3, rfl, p3, q3⟩ := sh_pair (ha' x3 (by simp))
      refine ⟨⟨us, a0, b0, a1, b1, a2, b2, a3, b3⟩, ⟨by show us.length ≤ _; omega, u3, p0, q0, p1, q1, p2, q2, p3, q3⟩, ?_⟩
      simp [Pl.d, u1, u2]

set_option maxRecDepth 100000 in
/-- an argument of that type -/
theorem arg_plan {H : Type} {enc : TypeId × Value → H} {W : World} {base b : Nat} {sp : Nat → Bool} {held : Bool} {v : Value} {d : DataW H} {ps : List MemPlace}
    (hv : Value.okWide Tryz.prog W .any b 26 v) (h : DataW.Trod enc Tryz.prog W base sp held 26 v d ps) (hd : Rows.uptoBulk d ≤ 1048576) : ∃ p : Pl, p.ok ∧ Rep (RS W) W p.d v := by
  obtain ⟨cs, rfl, _⟩ := okWide_struct Tryz.underlying26 hv
  obtain ⟨fuel, h⟩ := h
  obtain ⟨ds, h1, h2, h3⟩ := reps_of_trod (N := 1048576) bulk 8 26 fuel cs.toList (d, ps) (by kernel_rfl) h hd
  obtain ⟨p, hp, e⟩ := sh_plan (by omega) h3
  refine ⟨p, hp, ?_⟩
  rw [e]
  exact .agg ds cs.toList h1.1 h2 h1.2

set_option maxRecDepth 100000 in
theorem columnTexts_calls {H : Type} {enc : TypeId × Value → H} {W : World} {base : Nat} {args : Array Value} {ds gs : List (DataW H)} {before : List MemPlace}
    (hval : ∀ (j : Nat) t v, Tryz.f3.params[j]? = some t → args[j]? = some v → Value.okWide Tryz.prog W .any base t v)
    (hW : DataW.Whole enc Tryz.prog Tryz.f3.params.toList Rows.columnTextsSpec.vars false W args.toList ds gs before) (hL : Tryz.L W) (hk : Rows.uptoSmall H (ds ++ gs) = true) :
    Calls Tryz.prog 3 args W fun e W' => ∃ v, e = .returned v ∧ Rows.columnTextsSpec.post enc Tryz.prog Tryz.f3 false true false false W args v W' := by
  have hW' := hW
  obtain ⟨p, q, hA0, hV, rfl, hfz, hnd⟩ := hW
  have hA : DataW.TrodAll enc Tryz.prog W 0 (fun _ => true) true Tryz.f3.params.toList args.toList ds p := hA0
  rw [Tryz.params3] at hA hval
  obtain ⟨v0, d0, rfl, rfl, h0⟩ := trodAll_one hA
  obtain ⟨rfl, rfl⟩ := trodVars_none hV
  clear hA0
  simp only [List.append_nil] at hW' hk
  obtain ⟨pl, hp, hr⟩ := arg_plan (hval 0 26 v0 rfl rfl) h0 (bound hk d0 (by simp))
  have hlt : ∀ x ∈ p, x.block < W.heap.size := fun x hx => by simpa using hW'.lt x hx
  have walk := (Tryz.c3 pl hp).2 (RS W) W [v0] (fun b j h => h) hL ⟨rfl, fun i d v hd hv => by
    match i, hd, hv with
    | 0, hd, hv => simp at hd hv; subst hd; subst hv; exact hr⟩
  refine walk.mono fun e W' ⟨v, he, hb, hres⟩ => ?_
  subst he
  have hres' : Rep _ W' (.bool true) v := hres
  cases hres'
  exact ⟨_, rfl, post_of_below (pa := p) (pv := []) hW' (fun _ _ _ => trodAll_cons_mk (shut_bool Tryz.underlying4 _) trodAll_mk0)
    (fun sp hsp => trodAll_mk1 (WideElems.Trod_stays laidOut (by kernel_rfl) (of_decide_eq_true (by kernel_rfl)) h0 (fun x hx => hb.same (hlt x hx)) (fun x hx => hsp x (by simpa using hx))))
    (fun _ _ => rfl) (by simp) hb (ok_one (by kernel_rfl) rfl (okWide_bool_mk Tryz.underlying4 _))⟩

noncomputable def wit : Array Value := #[.agg #[.slice none 0 0, .int .u8 0, .int .u8 0, .int .u8 0, .int .u8 0, .int .u8 0, .int .u8 0, .int .u8 0, .int .u8 0]]

theorem columnTexts_witness (os : Os) {H : Type} (enc : TypeId × Value → H) :
    (Rows.OpenSpec.upto Rows.columnTextsSpec).preRow enc Tryz.prog Tryz.f3 Rows.columnTextsUptoRow.domain false Rows.columnTextsUptoRow.laid ((doorWorld os).forCall (fun _ _ => 0) ⟨#[], wit, []⟩).memory wit := by
  have hw : (DataW.whole enc Tryz.prog ((doorWorld os).forCall (fun _ _ => 0) ⟨#[], wit, []⟩).memory Tryz.f3.params.toList Rows.columnTextsSpec.vars false wit.toList 8).map (fun x => (x.1, x.2.1)) =
      some ([.agg [.nil, .agg [.agg [.lit (.int .u8 0), .lit (.int .u8 0)], .agg [.lit (.int .u8 0), .lit (.int .u8 0)], .agg [.lit (.int .u8 0), .lit (.int .u8 0)], .agg [.lit (.int .u8 0), .lit (.int .u8 0)]]]], []) := by kernel_rfl
  obtain ⟨⟨x1, x2, x3⟩, hx, hx1⟩ := Option.map_eq_some_iff.1 hw
  simp only [Prod.mk.injEq] at hx1
  obtain ⟨rfl, rfl⟩ := hx1
  exact OpenSpec.preRow_of_cond 8 hx (by kernel_rfl) (fun k hk => by cases hk; kernel_rfl) (by kernel_rfl) (door_met os _)

set_option maxRecDepth 100000 in
theorem columnTexts_lifted (os : Os) (started : os.Started) (H : Type) (enc : TypeId × Value → H) (F : Stop.Interp) :
    ReturnsInHanded {} Tryz.checked os 3 .any ((Rows.OpenSpec.upto Rows.columnTextsSpec).preRow enc Tryz.prog Tryz.f3 Rows.columnTextsUptoRow.domain false Rows.columnTextsUptoRow.laid) (((Rows.OpenSpec.upto Rows.columnTextsSpec).at F).post enc Tryz.prog Tryz.f3 false true false false) := by
  refine returnsInHanded_of_row (C := Tryz.checked) (s := Rows.OpenSpec.upto Rows.columnTextsSpec) own started (by kernel_rfl) Tryz.func3
    (witness_row_atRef (enc := enc) (C := Tryz.checked) false (doorWorld os) wit rfl (by kernel_rfl) (by kernel_rfl) (by kernel_rfl) (columnTexts_witness os enc)) ?_
  intro W base args ds gs before hval hW _ hcond _ hL _ _
  exact columnTexts_calls hval hW (ofLaid hL) (hcond _ rfl)

theorem columnTexts_said : Rows.ColumnTextsUptoSaid :=
  OpenClaim.holds_of_cond 3 Tryz.f3 rfl rfl rfl rfl rfl rfl rfl ⟨rfl, rfl, rfl, rfl, rfl⟩ rfl rfl rfl rfl rfl (by kernel_rfl) Tryz.func3 (by kernel_rfl)
    (of_decide_eq_true (by kernel_rfl)) (by unfold Func.isWrapper; first | (rw [if_pos (by decide +kernel)]; kernel_rfl) | (rw [if_neg (by decide +kernel)]; exact ⟨rfl, rfl⟩))
    (fun os started H enc _ F => by rw [OpenClaim.pre_eq_preRow]; exact columnTexts_lifted os started H enc F)

/-- No parameter wants a stand-in; the program's own looks are off. -/
theorem columnTexts_plain (f : FuncId) (fn : Func) (hf : Tryz.pinned.checked.prog.funcNamed "klippe/klippelaw22.ColumnTexts" = some f) (hfn : Tryz.pinned.checked.prog.funcs[f]? = some fn) :
    true = Tryz.pinned.checked.prog.looks [] ∧ ∀ (j : Nat) t, fn.params[j]? = some t → Tryz.pinned.checked.prog.wantsStandIn t = false := by
  obtain rfl : f = 3 := Option.some.inj ((show Tryz.prog.funcNamed "klippe/klippelaw22.ColumnTexts" = some 3 by kernel_rfl).symm.trans hf) |>.symm
  obtain rfl : fn = Tryz.f3 := (Option.some.inj (Tryz.func3.symm.trans hfn)).symm
  refine ⟨by kernel_rfl, fun j t ht => ?_⟩
  rw [Tryz.params3] at ht
  obtain rfl : t = 26 := by simpa using Array.mem_of_getElem? ht
  exact (show Tryz.prog.wantsStandIn 26 = false by kernel_rfl)

theorem columnTexts_card : Rows.ColumnTextsUptoCardSaid :=
  Claim7.holds_tied_plain_at .later [] _ _ _ _ columnTexts_said (fun _ h => by cases h) (by kernel_rfl) (fun _ h => by cases h) columnTextsUpto_row_tie rfl ⟨rfl, rfl⟩ (by kernel_rfl) rfl columnTexts_plain (by kernel_rfl)
#print axioms columnTexts_card
end Go.Proofs.YthfgjhnckegneaaGreatDoor
