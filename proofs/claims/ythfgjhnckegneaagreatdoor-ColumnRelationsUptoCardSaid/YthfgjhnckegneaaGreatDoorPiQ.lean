/-
  ONE STEP OF A REGION, in whatever order. Own work.
-/
import Derived.Test.YthfgjhnckegneaaGreatDoorPiP
import Derived.OrdersIn
import Derived.TacticsIn
import Derived.Orders
namespace Go.Pi
open Go Go.RowKit

variable {P : Program} {L : World → Prop} {n : Nz} {S0 S : Nat → Nat → Prop} {w0 w : World} {O : Nat → Option Nat} {g : G} {tm : Array Value} {o : Oper} {dst : Nat}

def PO.d (p : PO) : Nat := p.dst.getD 0

/-- an operation that runs -/
def Do (P : Program) (L : World → Prop) (p : PO) (g g' : G) : Prop :=
  (∃ l, p.k.run p.d g = some l ∧ g' = upds g l) ∨ (∃ f ds r, p.k.callee g = some (f, ds) ∧ Con P L f ds r ∧ g' = upds g (p.k.after p.d g r))

/-- an operation, run or passed over by its guard -/
def StepTo (P : Program) (L : World → Prop) (p : PO) (g g' : G) : Prop :=
  match p.guard with
  | none => Do P L p g g'
  | some (s, want) => (∃ b, g s = .bool b ∧ (if b = want then Do P L p g g' else g' = upd g p.d (.tup []))) ∨ (g s = .tup [] ∧ g' = upd g p.d (.tup []))

def PO.reads (p : PO) : List Nat := (match p.guard with | some (s, _) => [s] | none => []) ++ p.k.reads
def PO.writes (p : PO) : List Nat := p.d :: p.k.writes p.d
def PO.kills (p : PO) : List Nat := p.k.kills p.d

/-- the check of one operation against the model's -/
def chkPO (P : Program) (ok : Nat → Bool) (ops : Array Oper) (o : Oper) (p : PO) : Bool :=
  chkOp P o p.k && o.dst == p.dst &&
  (match p.k, p.dst with
  | .st .., none | .sgO .., none | .sgP .., none => p.guard.isNone
  | .st .., some _ | .sgO .., some _ | .sgP .., some _ => false
  | .bad, some d => ok d
  | k, some d => ok d && !k.reads.contains d
  | _, none => false) &&
  (match o.guard, p.guard with
  | none, none => true
  | some (j, want), some (s, want') => ((ops[j]?).bind (·.dst)) == some s && want == want' && decide (s ≠ p.d)
  | _, _ => false)

theorem upds_notin {l : List (Nat × D)} : ∀ {g : G} {t : Nat}, (∀ p ∈ l, p.1 ≠ t) → upds g l t = g t := by
  induction l with
  | nil => intro g t _; rfl
  | cons p l ih =>
    intro g t h
    obtain ⟨s, d⟩ := p
    simp only [upds]
    rw [ih (fun q hq => h q (List.mem_cons_of_mem _ hq))]
    simp only [upd]
    rw [if_neg (fun e => h (s, d) (List.mem_cons_self ..) e.symm)]

theorem upds_in {l : List (Nat × D)} : ∀ {g : G} {t : Nat}, (∃ p ∈ l, p.1 = t) → ∃ p ∈ l, p.1 = t ∧ upds g l t = p.2 := by
  induction l with
  | nil => intro g t h; obtain ⟨p, hp, _⟩ := h; simp at hp
  | cons q l ih =>
    intro g t h
    obtain ⟨s, d⟩ := q
    by_cases hin : ∃ p ∈ l, p.1 = t
    · obtain ⟨p, hp, he, hu⟩ := ih (g := upd g s d) hin
      exact ⟨p, List.mem_cons_of_mem _ hp, he, hu⟩
    · obtain ⟨p, hp, he⟩ := h
      rcases List.mem_cons.1 hp with rfl | hp
      · simp only at he; subst he
        refine ⟨_, List.mem_cons_self .., rfl, ?_⟩
        simp only [upds]
        rw [upds_notin (fun q hq e => hin ⟨q, hq, e⟩)]
        simp [upd]
      · exact absurd ⟨p, hp, he⟩ hin

theorem after_upd {k : K} {r : D} (hr : aliasOf r = none) : ∀ p ∈ k.after dst g r, p.1 ∈ k.writes dst ∧ (aliasOf p.2 = none ∨ aliasOf p.2 = aliasOf (g p.1)) := by
  have key : ∀ args : List PX, ∀ p ∈ ((dst, r) :: (if r.flat then [] else dulls g args) : List (Nat × D)), p.1 ∈ dst :: args.filterMap PX.slot ∧ (aliasOf p.2 = none ∨ aliasOf p.2 = aliasOf (g p.1)) := by
    intro args p hp
    rcases List.mem_cons.1 hp with rfl | hp
    · exact ⟨by simp, .inl hr⟩
    · split at hp
      · simp at hp
      · obtain ⟨h1, h2⟩ := dulls_fst args p hp
        exact ⟨List.mem_cons_of_mem _ h1, .inr (by rw [h2, aliasOf_dull])⟩
  intro p hp
  cases k <;> simp only [K.after] at hp <;> first
    | (simp at hp; done)
    | exact key _ p hp

/-- what a step does to slots, and to other names -/
theorem StepTo.frame {p : PO} {g' : G} (h : StepTo P L p g g') : ∀ t, (t ∉ p.writes → g' t = g t) ∧ ((t = p.d ∧ aliasOf (g' t) = p.k.tgt) ∨ aliasOf (g' t) = none ∨ aliasOf (g' t) = aliasOf (g t)) := by
  have hdo : Do P L p g g' → ∀ t, (t ∉ p.writes → g' t = g t) ∧ ((t = p.d ∧ aliasOf (g' t) = p.k.tgt) ∨ aliasOf (g' t) = none ∨ aliasOf (g' t) = aliasOf (g t)) := by
    rintro (⟨l, hl, rfl⟩ | ⟨f, ds, r, hc, hC, rfl⟩) t
    · have hu := K.run_upd hl
      by_cases hin : ∃ q ∈ l, q.1 = t
      · obtain ⟨q, hq, he, hv⟩ := upds_in (g := g) hin
        obtain ⟨h1, h2⟩ := hu q hq
        refine ⟨fun hn => absurd (List.mem_cons_of_mem _ (he ▸ h1)) hn, ?_⟩
        rw [hv]
        rcases h2 with ⟨h3, h4 | h4⟩ | h4 | h4
        · exact .inr (.inl h4)
        · exact .inl ⟨by rw [← he, h3], h4⟩
        · exact .inr (.inl h4)
        · exact .inr (.inr (by rw [h4, he]))
      · have : upds g l t = g t := upds_notin (fun q hq e => hin ⟨q, hq, e⟩)
        rw [this]
        exact ⟨fun _ => rfl, .inr (.inr rfl)⟩
    · have hu := after_upd (k := p.k) (dst := p.d) (g := g) hC.1.2
      by_cases hin : ∃ q ∈ p.k.after p.d g r, q.1 = t
      · obtain ⟨q, hq, he, hv⟩ := upds_in (g := g) hin
        obtain ⟨h1, h2⟩ := hu q hq
        refine ⟨fun hn => absurd (List.mem_cons_of_mem _ (he ▸ h1)) hn, ?_⟩
        rw [hv]
        rcases h2 with h4 | h4
        · exact .inr (.inl h4)
        · exact .inr (.inr (by rw [h4, he]))
      · have : upds g (p.k.after p.d g r) t = g t := upds_notin (fun q hq e => hin ⟨q, hq, e⟩)
        rw [this]
        exact ⟨fun _ => rfl, .inr (.inr rfl)⟩
  have hskip : g' = upd g p.d (.tup []) → ∀ t, (t ∉ p.writes → g' t = g t) ∧ ((t = p.d ∧ aliasOf (g' t) = p.k.tgt) ∨ aliasOf (g' t) = none ∨ aliasOf (g' t) = aliasOf (g t)) := by
    intro h
    subst h
    intro t
    refine ⟨fun hn => ?_, ?_⟩
    · have : t ≠ p.d := fun e => hn (by rw [e]; exact List.mem_cons_self ..)
      simp [upd, this]
    · by_cases e : t = p.d
      · subst e; exact .inr (.inl (by simp [upd, aliasOf]))
      · exact .inr (.inr (by simp [upd, e]))
  unfold StepTo at h
  split at h
  · exact hdo h
  · rcases h with ⟨b, hb, h⟩ | ⟨_, h⟩
    · split at h
      · exact hdo h
      · exact hskip h
    · exact hskip h

/-- other names are made by what has been done -/
def AliasIn (done : List PO) (g : G) : Prop := ∀ t s, aliasOf (g t) = some s → ∃ q ∈ done, q.d = t ∧ q.k.tgt = some s

theorem AliasIn.step {done : List PO} {p : PO} {g' : G} (h : AliasIn done g) (hs : StepTo P L p g g') : AliasIn (p :: done) g' := by
  intro t s ha
  obtain ⟨_, h2⟩ := hs.frame t
  rcases h2 with ⟨h3, h4⟩ | h4 | h4
  · exact ⟨p, List.mem_cons_self .., h3.symm, by rw [← h4]; exact ha⟩
  · rw [h4] at ha; cases ha
  · rw [h4] at ha
    obtain ⟨q, hq, e1, e2⟩ := h t s ha
    exact ⟨q, List.mem_cons_of_mem _ hq, e1, e2⟩

/-- q may be done before p: what q makes another name for p does not forget -/
def safePair (q p : PO) : Bool :=
  match q.k.tgt with
  | some s => (!p.kills.contains s || p.kills.contains q.d) && (s != p.d || q.d == p.d || p.guard.isNone)
  | none => true

theorem safe_kills {done : List PO} {p : PO} (h : AliasIn done g) (hsafe : ∀ q ∈ done, safePair q p = true) :
    (∀ t s, aliasOf (g t) = some s → s ∈ p.kills → t ∈ p.kills) ∧ (p.guard.isSome = true → ∀ t s, aliasOf (g t) = some s → s = p.d → t = p.d) := by
  refine ⟨fun t s ha hk => ?_, fun hg t s ha hk => ?_⟩
  · obtain ⟨q, hq, rfl, e2⟩ := h t s ha
    have := hsafe q hq
    simp only [safePair, e2, Bool.and_eq_true, Bool.or_eq_true, Bool.not_eq_true', List.contains_eq_mem, decide_eq_false_iff_not, decide_eq_true_eq] at this
    rcases this.1 with h1 | h1
    · exact absurd hk h1
    · exact h1
  · obtain ⟨q, hq, rfl, e2⟩ := h t s ha
    have := hsafe q hq
    simp only [safePair, e2, Bool.and_eq_true, Bool.or_eq_true, bne_iff_ne, ne_eq, beq_iff_eq] at this
    rcases this.2 with (h1 | h1) | h1
    · exact absurd hk h1
    · exact h1
    · cases hq : p.guard <;> simp [hq] at hg h1

/-- no fence but, maybe, a round of a range over a function -/
def WF (rd : Option Nat) : Fence := { Fence.wide with round := rd }

theorem callsWF {rd : Option Nat} {nn : Nat} {f : FuncId} {args : Array Value} {R : Ending → World → Prop} (h : Calls P f args w R) : CallsIn (WF rd) nn P f args w R :=
  (callsIn_wide (n := nn)).2 h

theorem semAt_chk {rd : Option Nat} {k : K} {ρ : Operand → Value} (hc : chkOp P o k = true) (hk : k ≠ .bad) : o.semAt rd ρ = execOp ρ o := by
  cases rd with
  | none => rfl
  | some l =>
    refine Oper.semAt_some l ρ o fun c e => ?_
    cases k <;> simp [chkOp, e] at hc hk

variable (hL : ∀ w w', L w → Below w.heap.size w w' → L w')
include hL

theorem step_sound {rd : Option Nat} {nn : Nat} {okf : Nat → Bool} (hn : ∀ d, okf d = true → n.Has d) {p : PO} {g' : G} {a : Act} {ops : Array Oper} {Kk : Act → World → Prop} {Q : Exit → Act → World → Prop} (hc : chkPO P okf ops o p = true) (hI : Inv P n S0 w0 S O g a.tmps w)
    (hL0 : L w0) (hst : StepTo P L p g g') (hal : ∀ t s, aliasOf (g t) = some s → s ∈ p.kills → t ∈ p.kills) (hal2 : p.guard.isSome = true → ∀ t s, aliasOf (g t) = some s → s = p.d → t = p.d)
    (hK : ∀ tm' w', Good P n S0 w0 g' tm' w' → Kk ⟨tm', a.defers⟩ w') : if Region.wanted o (yielded ops a.tmps) then o.wpIn (WF rd) nn P a w Kk Q else (∀ f, o.about P w a.eval = some f → (WF rd).fn f) ∧ Kk (a.put o.dst undef) w := by
  simp only [chkPO, Bool.and_eq_true, beq_iff_eq] at hc
  obtain ⟨⟨⟨hc1, hc2⟩, hc3⟩, hc4⟩ := hc
  have hLw : L w := hL _ _ hL0 hI.below
  -- the operation that runs
  have hbad : Do P L p g g' → p.k ≠ .bad := by
    intro hdo e
    rcases hdo with ⟨l, hl, _⟩ | ⟨f, ds, r, hce, _⟩
    · rw [e] at hl; cases hl
    · rw [e] at hce; cases hce
  have run : Do P L p g g' → (∀ t s, aliasOf (g t) = some s → s ∈ p.k.kills p.d → t ∈ p.k.kills p.d) → o.wpIn (WF rd) nn P a w Kk Q := by
    intro hdo hal1
    have hsem : o.semAt (WF rd).round a.eval = execOp a.eval o := semAt_chk hc1 (hbad hdo)
    rcases hdo with ⟨l, hl, rfl⟩ | ⟨f, ds, r, hce, hC, rfl⟩
    · by_cases hst : ∃ m x v, p.k = .st m x v
      · obtain ⟨m, x, v, hk⟩ := hst
        rw [hk] at hc1 hl hc3
        obtain ⟨w', h1, h2⟩ := sound_st (dst := p.d) hI hc1 hl
        have hd : p.dst = none := by cases hq : p.dst <;> simp [hq] at hc3 ⊢
        refine ⟨fun _ _ => trivial, ?_⟩
        rw [hsem, eval_eq, h1, Oper.uponIn_skip, hc2, hd]
        exact hK _ _ h2
      · by_cases hsO : ∃ t v ks, p.k = .sgO t v ks
        case pos =>
          obtain ⟨t, v, ks, hk⟩ := hsO
          rw [hk] at hc1 hl hc3 hal1
          obtain ⟨w', h1, h2⟩ := sound_sgO (dst := p.d) hI hc1 hl hal1
          have hd : p.dst = none := by cases hq : p.dst <;> simp [hq] at hc3 ⊢
          refine ⟨fun _ _ => trivial, ?_⟩
          rw [hsem, eval_eq, h1, Oper.uponIn_skip, hc2, hd]
          exact hK _ _ h2
        by_cases hsP : ∃ t v ks, p.k = .sgP t v ks
        case pos =>
          obtain ⟨t, v, ks, hk⟩ := hsP
          rw [hk] at hc1 hl hc3 hal1
          obtain ⟨w', h1, h2⟩ := sound_sgP (dst := p.d) hI hc1 hl hal1
          have hd : p.dst = none := by cases hq : p.dst <;> simp [hq] at hc3 ⊢
          refine ⟨fun _ _ => trivial, ?_⟩
          rw [hsem, eval_eq, h1, Oper.uponIn_skip, hc2, hd]
          exact hK _ _ h2
        have hns : ∀ m x v, p.k ≠ .st m x v := fun m x v e => hst ⟨m, x, v, e⟩
        have hnO : ∀ t v ks, p.k ≠ .sgO t v ks := fun t v ks e => hsO ⟨t, v, ks, e⟩
        have hnP : ∀ t v ks, p.k ≠ .sgP t v ks := fun t v ks e => hsP ⟨t, v, ks, e⟩
        have hd : ∃ d, p.dst = some d ∧ n.Has d ∧ d ∉ p.k.reads := by
          cases hq : p.dst with
          | none => rw [hq] at hc3; cases hk : p.k <;> rw [hk] at hc3 <;> simp at hc3 <;> first | exact absurd hk (hns _ _ _) | exact absurd hk (hnO _ _ _) | exact absurd hk (hnP _ _ _)
          | some d =>
            rw [hq] at hc3
            refine ⟨d, rfl, ?_⟩
            cases hk : p.k <;> rw [hk] at hc3 <;> first
              | (simp only [Bool.and_eq_true, decide_eq_true_eq, Bool.not_eq_true', List.contains_eq_mem, decide_eq_false_iff_not] at hc3; exact ⟨hn _ hc3.1, hc3.2⟩)
              | (exact absurd hk (hns _ _ _))
              | (exact absurd hk (hnO _ _ _))
              | (exact absurd hk (hnP _ _ _))
              | (rw [hk] at hl; cases hl)
        obtain ⟨d, hd1, hd2, hd3⟩ := hd
        have hpd : p.d = d := by simp [PO.d, hd1]
        rw [hpd] at hl hal1
        obtain ⟨v, w', h1, h2⟩ := sound_all (dst := d) p.k (.inr ⟨l, hl⟩) hns hnO hnP hI hc1 hd3 hd2 hl hal1
        refine ⟨fun _ _ => trivial, ?_⟩
        rw [hsem, eval_eq, h1, Oper.uponIn_value, hc2, hd1]
        exact hK _ _ h2
    · have hd : ∃ d, p.dst = some d ∧ n.Has d ∧ d ∉ p.k.reads := by
        cases hk : p.k <;> rw [hk] at hce <;> simp only [K.callee] at hce <;> try (cases hce; done)
        all_goals
          cases hq : p.dst with
          | none => rw [hk, hq] at hc3; simp at hc3
          | some d =>
            rw [hk, hq] at hc3
            simp only [Bool.and_eq_true, decide_eq_true_eq, Bool.not_eq_true', List.contains_eq_mem, decide_eq_false_iff_not] at hc3
            exact ⟨d, rfl, hn _ hc3.1, hc3.2⟩
      obtain ⟨d, hd1, hd2, hd3⟩ := hd
      have hpd : p.d = d := by simp [PO.d, hd1]
      rw [hpd] at hal1 hK
      have fin : ∀ vs : List Value, (∀ S' gd, Inv P n S0 w0 S' O gd a.tmps w → gd = dullAll g ((callArgs p.k).filterMap PX.slot) → Reps S' w ds vs) →
          ((∃ f' args, p.k = .call f' args) ∨ ∃ t args, p.k = .callV t args) → (execOp (rho a.tmps) o).run P w = .ok (.enter f vs.toArray) w → o.wpIn (WF rd) nn P a w Kk Q := by
        intro vs hargs hkind hex
        have h1 := calls_pure hI hkind hd2 hd3 hal1 hC hLw hargs
        refine ⟨fun _ _ => trivial, ?_⟩
        rw [hsem, eval_eq, hex, Oper.uponIn_enter]
        refine ⟨fun h => (by cases h), callsWF (h1.mono ?_)⟩
        rintro e w' ⟨v, rfl, hg⟩
        rw [hc2, hd1]
        exact hK _ _ hg
      cases hk : p.k <;> rw [hk] at hce <;> simp only [K.callee] at hce <;> try (cases hce; done)
      · rename_i f' args
        rw [Option.map_eq_some_iff] at hce
        obtain ⟨ds', h1, h2⟩ := hce
        cases h2
        rw [hk] at hc1
        obtain ⟨as, h3, h4⟩ := exec_call (P := P) (w := w) (tm := a.tmps) hc1
        refine fin (as.map (rho a.tmps)) (fun S' gd hI' hgd => ?_) (.inl ⟨_, _, hk⟩) h4
        rw [hk] at hgd
        exact Inv.lends gd hI' args hgd as args ds h3 (fun _ h => h) h1
      · rename_i t args
        split at hce <;> try (cases hce; done)
        rename_i f' caps hgt
        rw [Option.map_eq_some_iff] at hce
        obtain ⟨ds', h1, h2⟩ := hce
        cases h2
        rw [hk] at hc1
        have hrt := hI.rep (t := t) (by rw [hgt]; rfl)
        rw [hgt] at hrt
        generalize hq : a.tmps.getD t undef = q at hrt
        obtain ⟨cvs, rfl⟩ : ∃ cvs : List Value, q = .func (.func f) #[] cvs.toArray := by cases hrt; exact ⟨_, rfl⟩
        obtain ⟨as, h3, h4⟩ := exec_callV (P := P) (w := w) (tm := a.tmps) (f := f) (caps := cvs) hc1 hq hC.1.1
        refine fin (as.map (rho a.tmps) ++ cvs) (fun S' gd hI' hgd => ?_) (.inr ⟨_, _, hk⟩) h4
        rw [hk] at hgd
        have h5 := Inv.lends gd hI' args hgd as args ds' h3 (fun _ h => h) h1
        have h6 : gd t = .clo f caps := by
          rw [hgd]; simp only [Pi.dullAll]
          split
          · rw [hgt]; rfl
          · exact hgt
        have h7 := hI'.rep (t := t) (by rw [h6]; rfl)
        rw [h6, hq] at h7
        exact h5.app h7.clo_inv
  unfold StepTo at hst
  cases hg1 : o.guard with
  | none =>
    have hg2 : p.guard = none := by cases hq : p.guard <;> simp [hg1, hq] at hc4 ⊢
    rw [hg2] at hst
    rw [if_pos (by simp [Region.wanted, hg1])]
    exact run hst hal
  | some jw =>
    obtain ⟨j, want⟩ := jw
    cases hg2 : p.guard with
    | none => simp [hg1, hg2] at hc4
    | some sw =>
      obtain ⟨s, want'⟩ := sw
      rw [hg2] at hst
      simp only [hg1, hg2, Bool.and_eq_true, beq_iff_eq, decide_eq_true_eq] at hc4
      obtain ⟨⟨hj, rfl⟩, hsd⟩ := hc4
      have hdd : ∃ d, p.dst = some d := by
        cases hq : p.dst with
        | some d => exact ⟨d, rfl⟩
        | none => rw [hq, hg2] at hc3; cases hk : p.k <;> rw [hk] at hc3 <;> simp at hc3
      obtain ⟨d, hd1⟩ := hdd
      have hdok : n.Has d := by
        rw [hd1] at hc3
        cases hk : p.k <;> rw [hk] at hc3 <;> first
          | (exact hn _ hc3)
          | (simp only [Bool.and_eq_true] at hc3; exact hn _ hc3.1)
          | (cases hc3; done)
      have hpd : p.d = d := by simp [PO.d, hd1]
      have skip : g' = upd g p.d (.tup []) → Kk (a.put o.dst undef) w := fun h => by
        subst h
        rw [hc2, hd1]
        rw [hpd] at hK hal2
        exact hK _ _ ⟨_, _, _, hI.setPure (v := undef) hI.extRefl (fun _ _ z => z) (fun _ _ z => .inl z) (.tup [] [] rfl (fun i d v hi => by simp at hi)) hdok (hal2 (by simp [hg2]))⟩
      rcases hst with ⟨b, hb, hst⟩ | ⟨hs, hst⟩
      · have hrep := hI.rep (t := s) (by rw [hb]; rfl)
        rw [hb] at hrep
        have hval := hrep.bool_inv
        have hget : a.tmps[s]? = some (.bool b) := by
          cases hq : a.tmps[s]? with
          | none => simp [Array.getD_eq_getD_getElem?, hq, undef] at hval
          | some x => simp [Array.getD_eq_getD_getElem?, hq] at hval; rw [hval]
        have hy : yielded ops a.tmps j = some b := by
          unfold yielded
          rw [hj]
          simp [hget]
        by_cases hbw : b = want
        · rw [if_pos hbw] at hst
          rw [if_pos (by simp [Region.wanted, hg1, hy, hbw])]
          exact run hst hal
        · rw [if_neg hbw] at hst
          rw [if_neg (by simp [Region.wanted, hg1, hy, hbw])]
          exact ⟨fun _ _ => trivial, skip hst⟩
      · have hrep := hI.rep (t := s) (by rw [hs]; rfl)
        rw [hs] at hrep
        have hval : a.tmps.getD s undef = .tuple #[] := by
          generalize a.tmps.getD s undef = v at hrep
          cases hrep with
          | tup _ vs hl h => cases vs with | nil => rfl | cons _ _ => simp at hl
        have hy : yielded ops a.tmps j = none := by
          unfold yielded
          rw [hj]
          cases hq : a.tmps[s]? with
          | none => simp [hq]
          | some x => simp [Array.getD_eq_getD_getElem?, hq] at hval; simp [hq, hval]
        rw [if_neg (by simp [Region.wanted, hg1, hy])]
        exact ⟨fun _ _ => trivial, skip hst⟩

end Go.Pi
