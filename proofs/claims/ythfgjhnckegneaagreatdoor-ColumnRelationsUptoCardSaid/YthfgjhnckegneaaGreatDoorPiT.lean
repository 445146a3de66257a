/-
  A FUNCTION's CONTRACT OUT OF ITS PURE READING. Own work.
-/
import Derived.Test.YthfgjhnckegneaaGreatDoorPiS
namespace Go.Pi
open Go Go.RowKit

variable {P : Program} {L : World → Prop} {n : Nz} {S0 S : Nat → Nat → Prop} {w0 w : World} {O : Nat → Option Nat} {g : G} {tm : Array Value} {o : Oper} {dst : Nat}

inductive RV where
  | t (s : Nat)
  | c (s : Nat) (ag : Bool) (n : Nat)

def RV.slot : RV → Nat
  | .t s => s
  | .c s _ _ => s

/-- several results are a tuple, one is itself -/
def packR : List Value → Value
  | [x] => x
  | xs => .tuple xs.toArray

def chkRV (P : Program) : List ResultVar → List RV → Bool
  | [], [] => true
  | .tmp t :: r, .t s :: q => t == s && decide (t < GB) && chkRV P r q
  | .cell a ty :: r, .c s ag m :: q => a == s && decide (a < GB) && isAggB P ty == some ag && P.cellsOf ty == m && (P.info? ty).isSome && chkRV P r q
  | _, _ => false

/-- one result of several, or a plain one -/
def rvD (E : Env) : RV → Option D
  | .t s => if (lk E s).plain.isPure then some (lk E s).plain else none
  | .c s ag m => match lk E s with
    | .box _ cs => ofCells ag m cs
    | _ => none

def resD (E : Env) : List RV → Option D
  | [.t s] => match lk E s with
    | .own wr e m cs => some (.own wr e m cs)
    | d => if d.isPure then some d else none
  | [.c s ag m] => rvD E (.c s ag m)
  | rs => (optAll (rs.map (rvD E))).map .tup

def initE : Nat → List D → Env
  | _, [] => []
  | k, d :: ds => (k, d) :: initE (k + 1) ds

theorem lk_initE : ∀ (ds : List D) (k t : Nat), lk (initE k ds) t = if k ≤ t then (ds[t - k]?).getD .un else .un
  | [], k, t => by simp [initE, lk]
  | d :: ds, k, t => by
    simp only [initE, lk]
    rw [lk_initE ds (k + 1) t]
    by_cases h : t = k
    · subst h; simp
    · simp only [h, if_false]
      by_cases h2 : k + 1 ≤ t
      · rw [if_pos h2, if_pos (by omega), show t - k = (t - (k + 1)) + 1 by omega]; simp
      · rw [if_neg h2, if_neg (by omega)]

/-- a whole frame: every slot may be written -/
def Nz.all (m : Nat) (tm : Array Value) (w : World) : Nz := ⟨m, fun d => decide (d < m), tm, w, fun _ => undef⟩

theorem init_inv {ds : List D} {vs : List Value} {m : Nat} (hS : ∀ b j, S b j → b < w.heap.size) (hr : Reps S w ds vs) (hm : vs.length ≤ m) (hmg : m ≤ GB) :
    Inv P (Nz.all m (vs.toArray ++ Array.replicate (m - vs.toArray.size) undef) w) S w S (fun _ => none) (lk (initE 0 ds)) (vs.toArray ++ Array.replicate (m - vs.toArray.size) undef) w where
  fix := fun _ _ => rfl
  keep := fun _ _ h _ => h
  nb := hmg
  gh := fun t ht => by
    rw [lk_initE]
    simp only [Nat.zero_le, if_true, Nat.sub_zero]
    rw [List.getElem?_eq_none (by have := hr.1; omega)]
    rfl
  size := by simp [Nz.all]; omega
  below := Below.refl _ _
  sub := fun _ _ x => x
  sup := fun _ _ x => .inl x
  ex := hS
  inj := fun _ _ _ h => by cases h
  base := fun _ _ h => by cases h
  slot := fun t => by
    rw [lk_initE]
    simp only [Nat.zero_le, if_true, Nat.sub_zero]
    cases hd : ds[t]? with
    | none => simp [SR]
    | some d =>
      obtain ⟨v, hv, hrep⟩ := hr.get hd
      simp only [Option.getD_some]
      rw [SR.pure_iff hrep.pure]
      refine ⟨rfl, ?_⟩
      have hlt : t < vs.length := (List.getElem?_eq_some_iff.1 hv).1
      have e : tmOf (fun _ => undef) (vs.toArray ++ Array.replicate (m - vs.toArray.size) undef) t = v := by
        rw [tmOf_lt (by omega)]
        simp only [Array.getD_eq_getD_getElem?]
        rw [Array.getElem?_append_left (by simpa using hlt)]
        simp [hv]
      simp only [Nz.all]
      rw [e]; exact hrep

def rvRun (tmps : Array Value) : ResultVar → Sem Value
  | .tmp t => pure (tmps.getD t undef)
  | .cell a t => do loadVar t (← asAddr (tmps.getD a undef))

theorem run_rv {E : Env} {tmps : Array Value} (hI : Inv P n S0 w0 S O (lk E) tmps w) {v : ResultVar} {q : RV} (hc : chkRV P [v] [q] = true) {d : D} (hd : rvD E q = some d)
    (hdull : (lk E q.slot).dull = lk E q.slot) : ∃ x, (rvRun tmps v).run P w = .ok x w ∧ Rep S w d x := by
  cases v <;> cases q <;> simp only [chkRV, Bool.and_true, Bool.and_eq_true, beq_iff_eq] at hc <;> try (cases hc; done)
  · rename_i t s
    simp only [decide_eq_true_eq] at hc
    obtain ⟨rfl, htg⟩ := hc
    refine ⟨_, rfl, ?_⟩
    simp only [rvD] at hd
    split at hd <;> cases hd
    rename_i hp
    have hs := hI.slot t
    simp only [RV.slot] at hdull
    cases hg : lk E t <;> rw [hg] at hp hs hdull <;> simp only [D.plain, D.isPure] at hp ⊢ <;> first
      | (cases hp; done)
      | (have h2 := hs.2; rw [tmOf_lt htg] at h2; exact h2)
      | skip
    simp only [D.dull, D.own.injEq, and_true, true_and] at hdull
    subst hdull
    have h2 := OwnR.rep hs
    rwa [tmOf_lt htg] at h2
  · rename_i a ty s ag m
    obtain ⟨⟨⟨h1, h2⟩, h3⟩, h4⟩ := hc
    simp only [decide_eq_true_eq] at h1
    obtain ⟨rfl, htg⟩ := h1
    simp only [rvD] at hd
    split at hd <;> try (cases hd; done)
    rename_i wr cs hg
    have hs := hI.slot a
    rw [hg] at hs
    simp only [SR, OwnR] at hs
    obtain ⟨b, arr, e, z1, z2, z3, z4, z5, _⟩ := hs
    obtain ⟨g1, g2, g3⟩ := ofCells_rep (S := S) (w := w) hd z4 z5
    refine ⟨_, ?_, g3⟩
    have := run_loadVar (P := P) (w := w) (vs := arr.toList.take m) (b := b) (off := 0) h2 (by rw [List.length_take]; omega) h4
      (fun j v hj => by
        rw [cell_of_row w b (0 + j) arr e (0, 0) z3]
        rw [List.getElem?_take] at hj
        split at hj <;> try (cases hj; done)
        simpa using hj) (fun e => by rw [List.length_take]; have := g2 e; omega)
    have e2 : tmps.getD a undef = .pointer (some ⟨b, 0, none⟩) := (tmOf_lt htg).symm.trans z2
    simp [rvRun, e2, asAddr, this]

theorem run_rvs {E : Env} {tmps : Array Value} (hI : Inv P n S0 w0 S O (lk E) tmps w) (hdull : ∀ s, (lk E s).dull = lk E s) : ∀ (vs : List ResultVar) (rs : List RV) (ds : List D), chkRV P vs rs = true → optAll (rs.map (rvD E)) = some ds →
    ∃ xs, (vs.mapM (rvRun tmps)).run P w = .ok xs w ∧ Reps S w ds xs
  | [], [], ds, _, h => by simp [optAll] at h; subst h; exact ⟨[], by simp, .nil⟩
  | [], _ :: _, _, h, _ => by simp [chkRV] at h
  | v :: vs, [], _, h, _ => by cases v <;> simp [chkRV] at h
  | v :: vs, q :: rs, ds, hc, h => by
    have hc1 : chkRV P [v] [q] = true ∧ chkRV P vs rs = true := by
      cases v <;> cases q <;> simp only [chkRV, Bool.and_eq_true, Bool.and_true] at hc ⊢ <;> first
        | (cases hc; done)
        | exact hc
    cases ds with
    | nil => have := optAll_nil h; simp at this
    | cons d ds =>
      obtain ⟨h1, h2⟩ := optAll_cons h
      obtain ⟨x, e1, e2⟩ := run_rv hI hc1.1 h1 (hdull _)
      obtain ⟨xs, e3, e4⟩ := run_rvs hI hdull vs rs ds hc1.2 h2
      exact ⟨x :: xs, by simp [List.mapM_cons, e1, e3], .cons e2 e4⟩

theorem results_eq (fn : Func) (tmps : Array Value) : results fn tmps = (do
    let vs ← fn.results.mapM (rvRun tmps)
    pure (if h : vs.size = 1 then vs[0] else .tuple vs)) := by
  unfold results
  congr 1

theorem run_results {fn : Func} {tmps : Array Value} {xs : List Value} (h : (fn.results.toList.mapM (rvRun tmps)).run P w = .ok xs w) :
    (results fn tmps).run P w = .ok (packR xs) w := by
  rw [results_eq, Array.mapM_eq_mapM_toList]
  simp only [Sem.run_bind, Sem.run_map, h, Result.andThen_ok, Sem.run_pure]
  congr 1
  match xs with
  | [] => rfl
  | [x] => rfl
  | x :: y :: r => simp [packR]

def anyE : Env → (D → Bool) → Bool
  | [], _ => false
  | p :: r, f => f p.2 || anyE r f

/-- all slots settled -/
theorem Inv.dullE {E : Env} (h : Inv P n S0 w0 S O (lk E) tm w) : ∃ S', Inv P n S0 w0 S' O (lk (E.map fun p => (p.1, p.2.dull))) tm w ∧ ∀ b j, S b j → S' b j := by
  obtain ⟨S', h1, h2⟩ := h.dullAll (E.map (·.1))
  refine ⟨S', ?_, h2⟩
  have e : Pi.dullAll (lk E) (E.map (·.1)) = lk (E.map fun p => (p.1, p.2.dull)) := by
    funext t
    clear h h1 h2
    have key : ∀ E : Env, lk (E.map fun p => (p.1, p.2.dull)) t = (lk E t).dull := by
      intro E
      induction E with
      | nil => rfl
      | cons p E ih =>
        obtain ⟨k, d⟩ := p
        simp only [List.map_cons, lk]
        split
        · rfl
        · exact ih
    have key2 : ∀ E : Env, t ∉ E.map (·.1) → lk E t = .un := by
      intro E
      induction E with
      | nil => intro _; rfl
      | cons p E ih =>
        intro hn
        obtain ⟨k, d⟩ := p
        simp only [List.map_cons, List.mem_cons, not_or] at hn
        simp only [lk, if_neg hn.1]
        exact ih hn.2
    rw [key]
    unfold Pi.dullAll
    split
    · rfl
    · rename_i hn
      rw [key2 E hn]; rfl
  rw [← e]; exact h1

theorem rvD_dull {E : Env} {q : RV} {d : D} (h : rvD E q = some d) : rvD (E.map fun p => (p.1, p.2.dull)) q = some d := by
  have key : ∀ t, lk (E.map fun p => (p.1, p.2.dull)) t = (lk E t).dull := by
    intro t
    induction E with
    | nil => rfl
    | cons p E ih =>
      obtain ⟨k, d'⟩ := p
      clear h
      simp only [List.map_cons, lk]
      split
      · rfl
      · clear ih
        induction E with
        | nil => rfl
        | cons p E ih =>
          obtain ⟨k, d'⟩ := p
          simp only [List.map_cons, lk]
          split
          · rfl
          · exact ih
  cases q with
  | t s =>
    simp only [rvD, key] at h ⊢
    cases hq : lk E s <;> rw [hq] at h <;> exact h
  | c s ag m =>
    simp only [rvD, key] at h ⊢
    cases hq : lk E s <;> rw [hq] at h <;> exact h

theorem dull_idem (E : Env) (s : Nat) : (lk (E.map fun p => (p.1, p.2.dull)) s).dull = lk (E.map fun p => (p.1, p.2.dull)) s := by
  induction E with
  | nil => rfl
  | cons p E ih =>
    obtain ⟨k, d⟩ := p
    simp only [List.map_cons, lk]
    split
    · exact dull_dull d
    · exact ih

/-- what a frame hands back -/
theorem Good.res {E : Env} {fn : Func} {rs : List RV} {r : D} {S : Nat → Nat → Prop} (hg : Good P n S w0 (lk E) tm w) (hna : ∀ t, aliasOf (lk E t) = none) (hc : chkRV P fn.results.toList rs = true) (hr : resD E rs = some r) :
    ∃ v, (results fn tm).run P w = .ok v w ∧ Below w0.heap.size w0 w ∧ Res P S w0 w r v := by
  obtain ⟨S1, O, gv, hI⟩ := hg
  have plainCase : ∀ {S2 : Nat → Nat → Prop} {d : D} {v : Value}, Inv P { n with gv := gv } S w0 S2 O (lk (E.map fun p => (p.1, p.2.dull))) tm w → Rep S2 w d v → Rep (fun b j => S b j ∨ (w0.heap.size ≤ b ∧ b < w.heap.size)) w d v := fun hI2 h =>
    h.mono (fun b j z => (hI2.sup b j z).imp id fun y => ⟨y, hI2.ex b j z⟩) (fun _ _ _ => rfl)
  have pure : ∀ d v, d.isPure = true → Rep (fun b j => S b j ∨ (w0.heap.size ≤ b ∧ b < w.heap.size)) w d v → Res P S w0 w d v := fun d v hp h => by
    cases d <;> first
      | exact h
      | simp [D.isPure] at hp
  obtain ⟨S2, hI2, _⟩ := hI.dullE
  have many : ∀ ds, optAll (rs.map (rvD E)) = some ds → ∃ xs, (fn.results.toList.mapM (rvRun tm)).run P w = .ok xs w ∧ Reps S2 w ds xs := by
    intro ds hds
    refine run_rvs hI2 (dull_idem E) _ rs ds hc ?_
    have : ∀ (rs : List RV) (ds : List D), optAll (rs.map (rvD E)) = some ds → optAll (rs.map (rvD (E.map fun p => (p.1, p.2.dull)))) = some ds := by
      intro rs
      induction rs with
      | nil => intro ds h; exact h
      | cons q rs ih =>
        intro ds h
        cases ds with
        | nil => have := optAll_nil h; simp at this
        | cons d ds =>
          obtain ⟨h1, h2⟩ := optAll_cons h
          simp only [List.map_cons, rvD_dull h1, optAll, ih ds h2, Option.map_some]
    exact this rs ds hds
  unfold resD at hr
  split at hr
  · rename_i s
    split at hr
    · rename_i wr e m cs hg
      cases hr
      have hfr : fn.results.toList = [.tmp s] ∧ s < GB := by
        cases hq : fn.results.toList with
        | nil => rw [hq] at hc; simp [chkRV] at hc
        | cons v vs =>
          rw [hq] at hc
          cases v <;> cases vs <;> simp [chkRV] at hc
          rw [hc.1]; exact ⟨rfl, hc.1 ▸ hc.2⟩
      have hrun : (fn.results.toList.mapM (rvRun tm)).run P w = .ok [tm.getD s undef] w := by rw [hfr.1]; simp [List.mapM_cons, rvRun]
      refine ⟨_, run_results hrun, hI.below, ?_⟩
      have hs := hI.slot s
      rw [hg] at hs
      simp only [SR] at hs
      rw [tmOf_lt hfr.2] at hs
      simp only [Res]
      refine ⟨O s, fun b hb => hI.base s b hb, ?_⟩
      refine OwnR.grow (w' := w) hs (fun b j z => ?_) (fun b j hb z => ?_) (fun _ _ _ => rfl) (fun _ _ => rfl)
      · rcases hI.sup b j z with y | y
        · exact .inl y
        · refine .inr ⟨y, hI.ex b j z, fun hb => ?_⟩
          simp only [SR, OwnR] at hs
          rcases hs with ⟨z1, _⟩ | ⟨b', cap, arr, z1, z2, z3, z4, z5, z6, z7, z8, z9, z10, z11⟩
          · rw [hb] at z1; cases z1
          · rw [hb] at z1; cases z1; exact z10 j z
      · rcases z with y | ⟨_, _, y⟩
        · exact hI.sub b j y
        · obtain ⟨hw, hj⟩ := y hb
          simp only [SR, OwnR] at hs
          rcases hs with ⟨z1, _⟩ | ⟨b', cap, arr, z1, z2, z3, z4, z5, z6, z7, z8, z9, z10, z11⟩
          · rw [hb] at z1; cases z1
          · rw [hb] at z1; cases z1; exact z11 hw j hj
    · rename_i d hnot
      split at hr <;> cases hr
      rename_i hp
      have hds : optAll ([RV.t s].map (rvD E)) = some [lk E s] := by
        have : rvD E (.t s) = some (lk E s) := by
          simp only [rvD]
          cases hq : lk E s <;> rw [hq] at hp <;> first | (simp [D.isPure] at hp; done) | rfl
        simp [this, optAll]
      obtain ⟨xs, h1, h2⟩ := many _ hds
      obtain ⟨x, xs', rfl, r1, r2⟩ := h2.uncons
      have : xs' = [] := by cases xs' with | nil => rfl | cons _ _ => have := r2.1; simp at this
      subst this
      exact ⟨_, run_results h1, hI.below, pure _ _ hp (plainCase hI2 r1)⟩
  · rename_i s ag m
    have hds : optAll ([RV.c s ag m].map (rvD E)) = some [r] := by simp [hr, optAll]
    obtain ⟨xs, h1, h2⟩ := many _ hds
    obtain ⟨x, xs', rfl, r1, r2⟩ := h2.uncons
    have : xs' = [] := by cases xs' with | nil => rfl | cons _ _ => have := r2.1; simp at this
    subst this
    exact ⟨_, run_results h1, hI.below, pure _ _ r1.pure (plainCase hI2 r1)⟩
  · rename_i hn1 hn2
    rw [Option.map_eq_some_iff] at hr
    obtain ⟨ds, hds, rfl⟩ := hr
    obtain ⟨xs, h1, h2⟩ := many _ hds
    have hlen : xs.length ≠ 1 := by
      have e1 : ∀ (l : List (Option D)) (ds : List D), optAll l = some ds → l.length = ds.length := by
        intro l
        induction l with
        | nil => intro ds h; simp [optAll] at h; subst h; rfl
        | cons x l ih =>
          intro ds h
          cases ds with
          | nil => have := optAll_nil h; simp at this
          | cons d ds => simp [ih ds (optAll_cons h).2]
      have e2 := e1 _ _ hds
      rw [← h2.1, ← e2, List.length_map]
      intro h
      match rs, h with
      | [.t s], _ => exact hn1 s rfl
      | [.c s ag m], _ => exact hn2 s ag m rfl
    have e3 : packR xs = .tuple xs.toArray := by
      match xs, hlen with
      | [], _ => rfl
      | x :: y :: r, _ => rfl
    refine ⟨_, run_results h1, hI.below, ?_⟩
    rw [e3]
    refine pure _ _ rfl (.tup ds xs h2.1 fun i d v hd hv => plainCase hI2 (h2.2 i d v hd hv))

theorem resD_alias {E : Env} (hna : ∀ t, aliasOf (lk E t) = none) {rs : List RV} {r : D} (hr : resD E rs = some r) : aliasOf r = none := by
  unfold resD at hr
  split at hr
  · split at hr
    · cases hr; rfl
    · split at hr <;> cases hr; exact hna _
  · simp only [rvD] at hr
    split at hr <;> try (cases hr; done)
    exact ofCells_alias hr
  · rw [Option.map_eq_some_iff] at hr
    obtain ⟨ds, _, rfl⟩ := hr
    rfl

/-- at a function's end the marks of its ranges are taken: nothing was deferred -/
theorem leaves_marks {fn : Func} {R : Ending → World → Prop} {nn : Nat} : ∀ (Ds : List Nat) (n : Nz) (w : World), Ds.Nodup → (∀ D ∈ Ds, w0.heap.size ≤ D ∧ w.heap[D]? = some (.deferred (some []))) → Good P n S0 w0 g tm w →
    (∀ n' w', Good P n' S0 w0 g tm w' → ∃ v, (results fn tm).run P w' = .ok v w' ∧ R (.returned v) w') → LeavesInM (WF none) nn P fn tm R (Ds.map mark) .returning w
  | [], n, w, _, _, hg, hR => hR n w hg
  | D :: Ds, n, w, hnd, hD, hg, hR => by
    have h1 := hD D (List.mem_cons_self ..)
    refine ⟨by simp, .inl ⟨D, w.putObj D (.deferred none), rfl, run_takeDeferred h1.2, ?_⟩⟩
    refine leaves_marks Ds _ _ (List.nodup_cons.1 hnd).2 (fun D' hm => ?_) (hg.putObj h1.2 rfl rfl h1.1) hR
    have hne : D' ≠ D := fun e => (List.nodup_cons.1 hnd).1 (e ▸ hm)
    exact ⟨(hD D' (List.mem_cons_of_mem _ hm)).1, (World.putObj_heap_other hne).trans (hD D' (List.mem_cons_of_mem _ hm)).2⟩

/-- THE RULE -/
theorem con_of (hL : ∀ w w', L w → Below w.heap.size w w' → L w') {f : FuncId} {fn : Func} {c : Code} {pc : PC} {rs : List RV} {ds : List D} {r : D} (hr0 : aliasOf r = none) (hf : P.funcs[f]? = some fn) (hb : fn.body = some c)
    (hnm : (fn.name != "runtime.NumGoroutine") = true) (hc : chkC P (fun d => decide (d < fn.ntmps)) c pc = true) (hrs : chkRV P fn.results.toList rs = true) (hlen : ds.length ≤ fn.ntmps) (hp : ds.all (fun d => (aliasOf d).isNone) = true) (hbk : ∀ q ∈ pc.backs, IsBack P q.1 q.2.1 q.2.2) (hcu : ∀ q ∈ cusL c pc, CusOk P L q.1 q.2.1 q.2.2) (hgb : fn.ntmps ≤ GB)
    (h : wpC (Con P L) pc (fun ex E => (match ex with | .exit _ => False | _ => True) ∧ resD E rs = some r) (initE 0 ds)) : Con P L f ds r := by
  refine ⟨⟨by simp [hasBody, hf, hb, hnm], hr0⟩, fun S w vs hS hLw hreps => ?_⟩
  have hI := init_inv (P := P) (m := fn.ntmps) hS hreps (by rw [← hreps.1]; exact hlen) hgb
  refine CallsIn.calls (F := WF none) (n := 0) (callsIn_of_wp_marks hf hb trivial ?_) (fun k d e => by cases e)
  refine wpC_sound (rd := none) (nn := 0) hL (w0 := w) (S0 := S) (n0 := Nz.all fn.ntmps (vs.toArray ++ Array.replicate (fn.ntmps - vs.toArray.size) undef) w) (df0 := []) hLw c pc (.inr ⟨rfl, hbk⟩) hcu _ _ (initE 0 ds) _ w (Nz.all fn.ntmps (vs.toArray ++ Array.replicate (fn.ntmps - vs.toArray.size) undef) w) _
    ⟨fun d h => ⟨of_decide_eq_true h, h⟩, fun _ => ⟨[], List.nodup_nil, rfl, fun D h => by cases h⟩, fun h => by cases h⟩ hc ?_ ⟨S, _, _, hI⟩ h ?_
  · intro t
    rw [lk_initE]
    simp only [Nat.zero_le, if_true, Nat.sub_zero]
    cases hd : ds[t]? with
    | none => rfl
    | some d =>
      have := List.all_eq_true.1 hp d (List.mem_of_getElem? hd)
      simpa using this
  · intro ex E' tm' w' n' df' hq hna had hg
    obtain ⟨Ds, hnd, rfl, hDs⟩ := had.2.1 rfl
    have hlv : LeavesInM (WF none) 0 P fn tm' (fun e w' => ∃ v, e = .returned v ∧ Below w.heap.size w w' ∧ Res P S w w' r v) (Ds.map mark) .returning w' := by
      obtain ⟨S1, O1, gv1, hI1⟩ := id hg
      refine leaves_marks Ds n' w' hnd (fun D hD => ⟨(hDs D hD).1, hI1.keep D _ (hDs D hD).2 rfl⟩) hg (fun n2 w2 hg2 => ?_)
      obtain ⟨v, h1, h2, h3⟩ := hg2.res hna hrs hq.2
      exact ⟨v, h1, v, rfl, h2, h3⟩
    cases ex with
    | nrm => exact hlv
    | exit id => exact hq.1.elim
    | ret => exact hlv

end Go.Pi
