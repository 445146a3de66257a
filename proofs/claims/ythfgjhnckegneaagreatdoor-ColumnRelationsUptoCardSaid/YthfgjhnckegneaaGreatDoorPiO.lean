/-
  CALLS: what a contract says; one operation of a region. Own work.
-/
import Derived.Test.YthfgjhnckegneaaGreatDoorPiNg
namespace Go.Pi
open Go Go.RowKit

variable {P : Program} {n : Nz} {S0 S : Nat → Nat → Prop} {w0 w : World} {O : Nat → Option Nat} {g : G} {tm : Array Value} {o : Oper} {dst : Nat}

/-- a result: plain data, or a slice that the caller may go on to append to -/
def Res (P : Program) (S : Nat → Nat → Prop) (w w' : World) (r : D) (v : Value) : Prop :=
  match r with
  | .own wr e m cs => ∃ ob, (∀ b, ob = some b → w.heap.size ≤ b ∧ b < w'.heap.size) ∧
      OwnR P (fun b j => S b j ∨ (w.heap.size ≤ b ∧ b < w'.heap.size ∧ (ob = some b → wr = false ∧ j < cs.length))) w' ob (.own wr e m cs) v
  | d => Rep (fun b j => S b j ∨ (w.heap.size ≤ b ∧ b < w'.heap.size)) w' d v

def hasBody (P : Program) (f : FuncId) : Bool := match P.funcs[f]? with | some fn => fn.body.isSome && fn.name != "runtime.NumGoroutine" | none => false

/-- THE CONTRACT: called with the data ds, in a world of which L holds, the function returns the data r; what was there stays as it was. -/
def Con (P : Program) (L : World → Prop) (f : FuncId) (ds : List D) (r : D) : Prop :=
  (hasBody P f = true ∧ aliasOf r = none) ∧ ∀ (S : Nat → Nat → Prop) (w : World) (vs : List Value), (∀ b j, S b j → b < w.heap.size) → L w → Reps S w ds vs →
    Calls P f vs.toArray w fun e w' => ∃ v, e = .returned v ∧ Below w.heap.size w w' ∧ Res P S w w' r v

theorem Rep.ofSimple {d : D} {v : Value} (h : Rep S w d v) (hd : d.simple = true) {S' : Nat → Nat → Prop} {w' : World} : Rep S' w' d v := by
  cases h <;> first
    | exact .bool _
    | exact .int _ _
    | (exact .str _ (by assumption))
    | exact .errN
    | exact .errS _ _
    | simp [D.simple] at hd

theorem Rep.ofFlat0 {d : D} {v : Value} (h : Rep S w d v) (hd : d.flat0 = true) {S' : Nat → Nat → Prop} {w' : World} : Rep S' w' d v := by
  cases d with
  | agg cs =>
    cases h with
    | agg ds vs hl h1 h => exact .agg cs vs hl h1 fun i d v hd1 hv1 => (h i d v hd1 hv1).ofSimple (List.all_eq_true.1 hd d (List.mem_of_getElem? hd1))
  | _ => exact h.ofSimple hd

theorem Rep.ofFlat {d : D} {v : Value} (h : Rep S w d v) (hd : d.flat = true) {S' : Nat → Nat → Prop} {w' : World} : Rep S' w' d v := by
  cases d with
  | tup cs =>
    cases h with
    | tup ds vs hl h => exact .tup cs vs hl fun i d v hd1 hv1 => (h i d v hd1 hv1).ofFlat0 (List.all_eq_true.1 hd d (List.mem_of_getElem? hd1))
  | _ => exact h.ofFlat0 hd

/-- an owned value whose contents lie in more settled cells -/
theorem Inv.setOwn2 {w' : World} {S' : Nat → Nat → Prop} {d : D} {v : Value} {ob : Option Nat} (h : Inv P n S0 w0 S O g tm w) (hx : Ext w0 w w') (hd : d.owned = true) (hS : ∀ b j, S b j → S' b j)
    (hS' : ∀ b j, S' b j → S b j ∨ (w.heap.size ≤ b ∧ b < w'.heap.size)) (hr : OwnR P S' w' ob d v) (hob : ∀ b, ob = some b → w.heap.size ≤ b ∧ b < w'.heap.size) (hdst : n.Has dst)
    (hal : ∀ t' s, aliasOf (g t') = some s → s = dst → t' = dst) : Good P n S0 w0 (upd g dst d) (tm.setIfInBounds dst v) w' := by
  have h1 := h.ext hx
  have h2 : Inv P n S0 w0 S' O g tm w' := h1.settle hS (fun b o x => (hS' b o x).imp id fun y =>
    ⟨Nat.le_trans h.below.size y.1, y.2, fun t e => by have := (h.base t b e).2; omega⟩)
  have h3 := h2.clear dst v hdst.2 hal
  have h4 := h3.put (O' := fun t' => if t' = dst then ob else O t') (t := dst) (d := d) (fun t' e => by simp [e]) (by simp [upd]) (noAlias_clear hal)
    (fun b e => by
      simp only [if_true] at e
      refine ⟨Nat.le_trans h.below.size (hob b e).1, (hob b e).2, fun t' e' => ?_⟩
      split at e'
      · cases e'
      · have := (h.base t' b e').2; have := (hob b e).1; omega)
    ((SR.owned_iff hd).2 (by simp only [if_true]; rw [tmOf_set _ _ (by rw [h.size]; exact hdst.1) (h.has hdst)]; exact hr)) (.inl (h.has hdst))
  rw [upd_upd] at h4
  exact ⟨_, _, _, h4⟩

theorem Inv.result {w' : World} {r : D} {v : Value} (h : Inv P n S0 w0 S O g tm w) (hb : Below w.heap.size w w') (hr : Res P S w w' r v) (hdst : n.Has dst)
    (hal : ∀ t' s, aliasOf (g t') = some s → s = dst → t' = dst) : Good P n S0 w0 (upd g dst r) (tm.setIfInBounds dst v) w' := by
  have hx : Ext w0 w w' := ⟨hb.block, h.below.trans (hb.mono h.below.size), hb.size⟩
  have pure : Rep (fun b j => S b j ∨ (w.heap.size ≤ b ∧ b < w'.heap.size)) w' r v → Good P n S0 w0 (upd g dst r) (tm.setIfInBounds dst v) w' := fun hr =>
    ⟨_, _, _, h.setPure hx (fun _ _ z => .inl z) (fun _ _ z => z) hr hdst hal⟩
  cases r <;> simp only [Res] at hr <;> first
    | exact pure hr
    | skip
  obtain ⟨ob, h1, h2⟩ := hr
  exact h.setOwn2 hx rfl (fun _ _ z => .inl z) (fun b j z => z.imp id fun y => ⟨y.1, y.2.1⟩) h2 h1 hdst hal

theorem Inv.lends (gd : G) {S' : Nat → Nat → Prop} (hI' : Inv P n S0 w0 S' O gd tm w) (all : List PX) (hgd : gd = Pi.dullAll g (all.filterMap PX.slot)) : ∀ (ys : List Operand) (xs : List PX) (ds : List D),
    chkXs ys xs = true → (∀ x ∈ xs, x ∈ all) → optAll (xs.map (lend g)) = some ds → Reps S' w ds (ys.map (rho tm)) := by
  intro ys
  induction ys with
  | nil =>
    intro xs ds h1 h2 h3
    cases xs with
    | nil => simp [optAll] at h3; subst h3; exact .nil
    | cons x xs => simp [chkXs] at h1
  | cons y ys ih =>
    intro xs ds h1 h2 h3
    cases xs with
    | nil => simp [chkXs] at h1
    | cons x xs =>
      simp only [chkXs, Bool.and_eq_true] at h1
      cases ds with
      | nil => have := optAll_nil h3; simp at this
      | cons d ds =>
        obtain ⟨h4, h5⟩ := optAll_cons h3
        have hin := h2 x (List.mem_cons_self ..)
        refine .cons (hI'.lent h1.1 h4 ?_) (ih xs ds h1.2 (fun z hz => h2 z (List.mem_cons_of_mem _ hz)) h5)
        rw [hgd]
        exact ev_dullAll _ x (fun d e => chkX_k (e ▸ h1.1)) (fun s e => List.mem_filterMap.2 ⟨x, hin, e⟩)

def callArgs : K → List PX
  | .call _ args => args
  | .callV _ args => args
  | _ => []

theorem calls_pure {L : World → Prop} {f : FuncId} {ds : List D} {r : D} {k : K} {vs : List Value} (hI : Inv P n S0 w0 S O g tm w) (hk : (∃ f' args, k = .call f' args) ∨ ∃ t args, k = .callV t args)
    (hdst : n.Has dst) (hrd : dst ∉ k.reads) (hal : ∀ t s, aliasOf (g t) = some s → s ∈ k.kills dst → t ∈ k.kills dst) (hC : Con P L f ds r) (hL : L w)
    (hargs : ∀ S' gd, Inv P n S0 w0 S' O gd tm w → gd = dullAll g ((callArgs k).filterMap PX.slot) → Reps S' w ds vs) :
    Calls P f vs.toArray w fun e w' => ∃ v, e = .returned v ∧ Good P n S0 w0 (upds g (k.after dst g r)) (tm.setIfInBounds dst v) w' := by
  obtain ⟨S', hI', hSS⟩ := hI.dullAll ((callArgs k).filterMap PX.slot)
  have hreps := hargs S' _ hI' rfl
  have hkd : k.kills dst = [dst] := by rcases hk with ⟨_, _, rfl⟩ | ⟨_, _, rfl⟩ <;> rfl
  have hal1 := halD hkd hal
  refine (hC.2 S' w vs hI'.ex hL hreps).mono ?_
  rintro e w' ⟨v, rfl, hb, hres⟩
  refine ⟨v, rfl, ?_⟩
  have hnd : dst ∉ (callArgs k).filterMap PX.slot := by
    intro hm
    obtain ⟨x, hx1, hx2⟩ := List.mem_filterMap.1 hm
    refine hrd ?_
    rcases hk with ⟨_, _, rfl⟩ | ⟨_, _, rfl⟩
    · exact List.mem_flatMap.2 ⟨x, hx1, PX.slot_reads hx2⟩
    · exact List.mem_cons_of_mem _ (List.mem_flatMap.2 ⟨x, hx1, PX.slot_reads hx2⟩)
  by_cases hf : r.flat = true
  · have e1 : upds g (k.after dst g r) = upd g dst r := by rcases hk with ⟨_, _, rfl⟩ | ⟨_, _, rfl⟩ <;> simp [K.after, hf, upds]
    rw [e1]
    have hx : Ext w0 w w' := ⟨hb.block, hI.below.trans (hb.mono hI.below.size), hb.size⟩
    have hrep : Rep S w' r v := by
      cases r <;> simp only [Res] at hres <;> first
        | exact hres.ofFlat hf
        | simp [D.flat, D.flat0, D.simple] at hf
    exact ⟨_, _, _, hI.setPure hx (fun _ _ z => z) (fun _ _ z => .inl z) hrep hdst hal1⟩
  · have e1 : upds g (k.after dst g r) = upd (dullAll g ((callArgs k).filterMap PX.slot)) dst r := by
      rcases hk with ⟨_, _, rfl⟩ | ⟨_, _, rfl⟩ <;> simp only [K.after, hf, if_false, Bool.false_eq_true] <;> exact upds_dst_dulls _ dst r hnd
    rw [e1]
    exact hI'.result hb hres hdst (fun t' s z1 z2 => by rw [alias_dullAll] at z1; exact hal1 t' s z1 z2)

theorem Rep.clo_inv {f : FuncId} {ds : List D} {vs : List Value} (h : Rep S w (.clo f ds) (.func (.func f) #[] vs.toArray)) : Reps S w ds vs := by
  generalize hq : Value.func (.func f) #[] vs.toArray = q at h
  cases h with
  | clo f2 ds2 vs2 hl2 hh2 =>
    have : vs = vs2 := by simpa using hq
    subst this
    exact ⟨hl2, hh2⟩

theorem exec_call {f : FuncId} {args : List PX} (hc : chkOp P o (.call f args) = true) : ∃ as : List Operand, chkXs as args = true ∧ (execOp (rho tm) o).run P w = .ok (.enter f (as.map (rho tm)).toArray) w := by
  simp only [chkOp] at hc
  split at hc <;> try (cases hc; done)
  rename_i f' as hop hats
  simp only [Bool.and_eq_true, beq_iff_eq] at hc
  obtain ⟨⟨rfl, h1⟩, h2⟩ := hc
  split at h2 <;> try (cases h2; done)
  rename_i fn hfn
  simp only [Bool.and_eq_true, bne_iff_ne, ne_eq] at h2
  refine ⟨as.toList, h1, ?_⟩
  have e0 : rho tm (.func f) = .func (.func f) #[] #[] := rfl
  obtain ⟨c, hb⟩ := Option.isSome_iff_exists.1 h2.1
  have e1 : (as.toList.map (rho tm)).toArray = as.map (rho tm) := by apply Array.ext'; simp
  rw [e1]
  simp [execOp, *, resolve, Deferred.ofValue, invoke, callFunc]

theorem exec_callV {t : Nat} {args : List PX} {f : FuncId} {caps : List Value} (hc : chkOp P o (.callV t args) = true) (ht : tm.getD t undef = .func (.func f) #[] caps.toArray) (hb : hasBody P f = true) :
    ∃ as : List Operand, chkXs as args = true ∧ (execOp (rho tm) o).run P w = .ok (.enter f (as.map (rho tm) ++ caps).toArray) w := by
  simp only [chkOp] at hc
  split at hc <;> try (cases hc; done)
  rename_i t' as hop hats
  simp only [Bool.and_eq_true, beq_iff_eq] at hc
  obtain ⟨rfl, h1⟩ := hc
  unfold hasBody at hb
  split at hb <;> try (cases hb; done)
  rename_i fn hfn
  simp only [Bool.and_eq_true, bne_iff_ne, ne_eq] at hb
  refine ⟨as.toList, h1, ?_⟩
  have e0 : rho tm (.tmp t) = .func (.func f) #[] caps.toArray := ht
  obtain ⟨c, hbc⟩ := Option.isSome_iff_exists.1 hb.1
  have e1 : (as.toList.map (rho tm) ++ caps).toArray = as.map (rho tm) ++ caps.toArray := by apply Array.ext'; simp
  rw [e1]
  simp [execOp, *, resolve, Deferred.ofValue, invoke, callFunc]

/-- all kinds but stores and calls -/
theorem sound_all (k : K) (hk : k.callee g = none ∨ ∃ l, k.run dst g = some l) (hns : ∀ m x v, k ≠ .st m x v) (hnO : ∀ t v ks, k ≠ .sgO t v ks) (hnP : ∀ t v ks, k ≠ .sgP t v ks) {l : List (Nat × D)}
    (hI : Inv P n S0 w0 S O g tm w) (hc : chkOp P o k = true) (hrd : dst ∉ k.reads) (hdst : n.Has dst) (hrun : k.run dst g = some l)
    (hal : ∀ t s, aliasOf (g t) = some s → s ∈ k.kills dst → t ∈ k.kills dst) :
    ∃ v w', (execOp (rho tm) o).run P w = .ok (.value v) w' ∧ Good P n S0 w0 (upds g l) (tm.setIfInBounds dst v) w' := by
  cases k with
  | bad => cases hrun
  | mv x => exact sound_mv x hI hc hrd hdst hrun hal
  | cp x => exact sound_cp x hI hc hrd hdst hrun hal
  | nil e => exact sound_nil e hI hc hrd hdst hrun hal
  | tk t => exact sound_tk t hI hc hrd hdst hrun hal
  | sh x => exact sound_sh x hI hc hrd hdst hrun hal
  | ari op k x y => exact sound_ari op k x y hI hc hrd hdst hrun hal
  | ci op x y => exact sound_ci op x y hI hc hrd hdst hrun hal
  | cat x y => exact sound_cat x y hI hc hrd hdst hrun hal
  | sc op x y => exact sound_sc op x y hI hc hrd hdst hrun hal
  | eqb neg x y => exact sound_eqb neg x y hI hc hrd hdst hrun hal
  | eq neg sig x y => exact sound_eq neg sig x y hI hc hrd hdst hrun hal
  | en neg x => exact sound_en neg x hI hc hrd hdst hrun hal
  | not x => exact sound_not x hI hc hrd hdst hrun hal
  | ng k x => exact sound_ng k x hI hc hrd hdst hrun hal
  | cvI k x => exact sound_cvI k x hI hc hrd hdst hrun hal
  | cvS x => exact sound_cvS x hI hc hrd hdst hrun hal
  | cvSB x => exact sound_cvSB x hI hc hrd hdst hrun hal
  | cvBS x => exact sound_cvBS x hI hc hrd hdst hrun hal
  | len x => exact sound_len x hI hc hrd hdst hrun hal
  | lenS x => exact sound_lenS x hI hc hrd hdst hrun hal
  | ix x i => exact sound_ix x i hI hc hrd hdst hrun hal
  | ia sz x i => exact sound_ia sz x i hI hc hrd hdst hrun hal
  | iaA m sz x i => exact sound_iaA m sz x i hI hc hrd hdst hrun hal
  | fa off x => exact sound_fa off x hI hc hrd hdst hrun hal
  | ld ag m x => exact sound_ld ag m x hI hc hrd hdst hrun hal
  | st m x v => exact absurd rfl (hns m x v)
  | alloc z => exact sound_alloc z hI hc hrd hdst hrun hal
  | bx m x => exact sound_bx m x hI hc hrd hdst hrun hal
  | bld z ps => exact sound_bld z ps hI hc hrd hdst hrun hal
  | bldS e z m ps => exact sound_bldS e z m ps hI hc hrd hdst hrun hal
  | mkS e z bytes l c => exact sound_mkS e z bytes l c hI hc hrd hdst hrun hal
  | app e sz bytes x y => exact sound_app e sz bytes x y hI hc hrd hdst hrun hal
  | slc sz x lo hi => exact sound_slc sz x lo hi hI hc hrd hdst hrun hal
  | slS x lo hi => exact sound_slS x lo hi hI hc hrd hdst hrun hal
  | mkf f caps => exact sound_mkf f caps hI hc hrd hdst hrun hal
  | ext t i => exact sound_ext t i hI hc hrd hdst hrun hal
  | pick c a b => exact sound_pick c a b hI hc hrd hdst hrun hal
  | fld ag off m x => exact sound_fld ag off m x hI hc hrd hdst hrun hal
  | mm mx xs => exact sound_mm mx xs hI hc hrd hdst hrun hal
  | call f args => cases hrun
  | callV t args => cases hrun
  | alG e => exact sound_alG e hI hc hrd hdst hrun hal
  | lg t => exact sound_lg t hI hc hrd hdst hrun hal
  | sgO t v ks => exact absurd rfl (hnO t v ks)
  | sgP t v ks => exact absurd rfl (hnP t v ks)

end Go.Pi
