/-
  ONE STEP OF A REGION, in whatever order. Own work.
-/
import Derived.Test.YtijkmdpdedagdaaGreatDoorPf
import Derived.OrdersIn
import Derived.TacticsIn
import Derived.Orders
set_option linter.unusedVariables false
set_option linter.unusedSimpArgs false
namespace Go.Pi
open Go Go.RowKit

variable {P : Program} {L : World → Prop} {n : Nz} {S0 S : Nat → Nat → Prop} {w0 w : World} {O : Nat → Option Nat} {g : G} {tm : Array Value} {o : Oper} {dst : Nat}

def PO.d (p : PO) : Nat := p.dst.getD 0

/-- an operation that runs -/
def Do (P : Program) (L : World → Prop) (p : PO) (g g' : G) : Prop :=
  (∃ l, p.k.run p.d g = some l ∧ g' = upds g l) ∨ (∃ f ds r, p.k.callee g = some (f, ds) ∧ Con P L f ds r ∧ g' = upds g (p.k.after p.d g r))

/-- an operation, run or passed over by its guard -/
def StepTo (P : Program) (L : World → Prop) (p : PO) (g g' : G) : Prop :=
  match p.guard with
  | none => Do P L p g g'
  | some (s, want) => (∃ b, g s = .bool b ∧ (if b = want then Do P L p g g' else g' = upd g p.d (.tup []))) ∨ (g s = .tup [] ∧ g' = upd g p.d (.tup []))

def PO.reads (p : PO) : List Nat := (match p.guard with | some (s, _) => [s] | none => []) ++ p.k.reads
def PO.writes (p : PO) : List Nat := (if p.guard.isSome = true then [p.d] else []) ++ p.k.writes p.d
theorem PO.mem_writes {p : PO} {t : Nat} (h : t ∈ p.k.writes p.d) : t ∈ p.writes := List.mem_append_right _ h
theorem PO.d_mem {p : PO} (h : p.guard.isSome = true) : p.d ∈ p.writes := by unfold PO.writes; rw [if_pos h]; simp
def PO.kills (p : PO) : List Nat := p.k.kills p.d

/-- the check of one operation against the model's -/
def chkPO (P : Program) (ok : Nat → Bool) (ops : Array Oper) (o : Oper) (p : PO) : Bool :=
  chkOp P o p.k && o.dst == p.dst &&
  (match p.k, p.dst with
  | .st .., none | .sgO .., none | .sgP .., none | .sgM .., none | .stQ .., none => p.guard.isNone
  | .st .., some _ | .sgO .., some _ | .sgP .., some _ | .sgM .., some _ | .stQ .., some _ => false
  | .bad, some d => ok d
  | k, some d => ok d && !k.reads.contains d
  | _, none => false) &&
  (match o.guard, p.guard with
  | none, none => true
  | some (j, want), some (s, want') => ((ops[j]?).bind (·.dst)) == some s && want == want' && decide (s ≠ p.d)
  | _, _ => false)

theorem upds_notin {l : List (Nat × D)} : ∀ {g : G} {t : Nat}, (∀ p ∈ l, p.1 ≠ t) → upds g l t = g t := by
  induction l with
  | nil => intro g t _; rfl
  | cons p l ih =>
    intro g t h
    obtain ⟨s, d⟩ := p
    simp only [upds]
    rw [ih (fun q hq => h q (List.mem_cons_of_mem _ hq))]
    simp only [upd]
    rw [if_neg (fun e => h (s, d) (List.mem_cons_self ..) e.symm)]

theorem upds_in {l : List (Nat × D)} : ∀ {g : G} {t : Nat}, (∃ p ∈ l, p.1 = t) → ∃ p ∈ l, p.1 = t ∧ upds g l t = p.2 := by
  induction l with
  | nil => intro g t h; obtain ⟨p, hp, _⟩ := h; simp at hp
  | cons q l ih =>
    intro g t h
    obtain ⟨s, d⟩ := q
    by_cases hin : ∃ p ∈ l, p.1 = t
    · obtain ⟨p, hp, he, hu⟩ := ih (g := upd g s d) hin
      exact ⟨p, List.mem_cons_of_mem _ hp, he, hu⟩
    · obtain ⟨p, hp, he⟩ := h
      rcases List.mem_cons.1 hp with rfl | hp
      · simp only at he; subst he
        refine ⟨_, List.mem_cons_self .., rfl, ?_⟩
        simp only [upds]
        rw [upds_notin (fun q hq e => hin ⟨q, hq, e⟩)]
        simp [upd]
      · exact absurd ⟨p, hp, he⟩ hin

theorem after_upd {k : K} {r : D} (hr : aliasOf r = none) : ∀ p ∈ k.after dst g r, p.1 ∈ k.writes dst ∧ (aliasOf p.2 = none ∨ aliasOf p.2 = aliasOf (g p.1)) := by
  have key : ∀ args : List PX, ∀ p ∈ ((dst, r) :: (if r.flat then [] else dulls g args) : List (Nat × D)), p.1 ∈ dst :: args.filterMap PX.slot ∧ (aliasOf p.2 = none ∨ aliasOf p.2 = aliasOf (g p.1)) := by
    intro args p hp
    rcases List.mem_cons.1 hp with rfl | hp
    · exact ⟨by simp, .inl hr⟩
    · split at hp
      · simp at hp
      · obtain ⟨h1, h2⟩ := dulls_fst args p hp
        exact ⟨List.mem_cons_of_mem _ h1, .inr (by rw [h2, aliasOf_dull])⟩
  intro p hp
  cases k <;> simp only [K.after] at hp <;> first
    | (simp at hp; done)
    | exact key _ p hp

/-- what a step does to slots, and to other names -/
theorem StepTo.frame {p : PO} {g' : G} (h : StepTo P L p g g') : ∀ t, (t ∉ p.writes → g' t = g t) ∧ ((t = p.d ∧ aliasOf (g' t) = p.k.tgt) ∨ aliasOf (g' t) = none ∨ aliasOf (g' t) = aliasOf (g t)) := by
  have hdo : Do P L p g g' → ∀ t, (t ∉ p.writes → g' t = g t) ∧ ((t = p.d ∧ aliasOf (g' t) = p.k.tgt) ∨ aliasOf (g' t) = none ∨ aliasOf (g' t) = aliasOf (g t)) := by
    rintro (⟨l, hl, rfl⟩ | ⟨f, ds, r, hc, hC, rfl⟩) t
    · have hu := K.run_upd hl
      by_cases hin : ∃ q ∈ l, q.1 = t
      · obtain ⟨q, hq, he, hv⟩ := upds_in (g := g) hin
        obtain ⟨h1, h2⟩ := hu q hq
        refine ⟨fun hn => absurd (PO.mem_writes (he ▸ h1)) hn, ?_⟩
        rw [hv]
        rcases h2 with ⟨h3, h4 | h4⟩ | h4 | h4
        · exact .inr (.inl h4)
        · exact .inl ⟨by rw [← he, h3], h4⟩
        · exact .inr (.inl h4)
        · exact .inr (.inr (by rw [h4, he]))
      · have : upds g l t = g t := upds_notin (fun q hq e => hin ⟨q, hq, e⟩)
        rw [this]
        exact ⟨fun _ => rfl, .inr (.inr rfl)⟩
    · have hu := after_upd (k := p.k) (dst := p.d) (g := g) hC.1.2
      by_cases hin : ∃ q ∈ p.k.after p.d g r, q.1 = t
      · obtain ⟨q, hq, he, hv⟩ := upds_in (g := g) hin
        obtain ⟨h1, h2⟩ := hu q hq
        refine ⟨fun hn => absurd (PO.mem_writes (he ▸ h1)) hn, ?_⟩
        rw [hv]
        rcases h2 with h4 | h4
        · exact .inr (.inl h4)
        · exact .inr (.inr (by rw [h4, he]))
      · have : upds g (p.k.after p.d g r) t = g t := upds_notin (fun q hq e => hin ⟨q, hq, e⟩)
        rw [this]
        exact ⟨fun _ => rfl, .inr (.inr rfl)⟩
  have hskip : p.guard.isSome = true → g' = upd g p.d (.tup []) → ∀ t, (t ∉ p.writes → g' t = g t) ∧ ((t = p.d ∧ aliasOf (g' t) = p.k.tgt) ∨ aliasOf (g' t) = none ∨ aliasOf (g' t) = aliasOf (g t)) := by
    intro hgs h
    subst h
    intro t
    refine ⟨fun hn => ?_, ?_⟩
    · have : t ≠ p.d := fun e => hn (by rw [e]; exact PO.d_mem hgs)
      simp [upd, this]
    · by_cases e : t = p.d
      · subst e; exact .inr (.inl (by simp [upd, aliasOf]))
      · exact .inr (.inr (by simp [upd, e]))
  unfold StepTo at h
  split at h
  · exact hdo h
  · rename_i hgd
    have hgs : p.guard.isSome = true := by rw [hgd]; rfl
    rcases h with ⟨b, hb, h⟩ | ⟨_, h⟩
    · split at h
      · exact hdo h
      · exact hskip hgs h
    · exact hskip hgs h

/-- other names are made by what has been done -/
def AliasIn (done : List PO) (g : G) : Prop := ∀ t s, aliasOf (g t) = some s → ∃ q ∈ done, q.d = t ∧ q.k.tgt = some s

theorem AliasIn.step {done : List PO} {p : PO} {g' : G} (h : AliasIn done g) (hs : StepTo P L p g g') : AliasIn (p :: done) g' := by
  intro t s ha
  obtain ⟨_, h2⟩ := hs.frame t
  rcases h2 with ⟨h3, h4⟩ | h4 | h4
  · exact ⟨p, List.mem_cons_self .., h3.symm, by rw [← h4]; exact ha⟩
  · rw [h4] at ha; cases ha
  · rw [h4] at ha
    obtain ⟨q, hq, e1, e2⟩ := h t s ha
    exact ⟨q, List.mem_cons_of_mem _ hq, e1, e2⟩

/-- q may be done before p: what q makes another name for p does not forget -/
def safePair (q p : PO) : Bool :=
  match q.k.tgt with
  | some s => (!p.kills.contains s || p.kills.contains q.d) && (s != p.d || q.d == p.d || p.guard.isNone)
  | none => true

theorem safe_kills {done : List PO} {p : PO} (h : AliasIn done g) (hsafe : ∀ q ∈ done, safePair q p = true) :
    (∀ t s, aliasOf (g t) = some s → s ∈ p.kills → t ∈ p.kills) ∧ (p.guard.isSome = true → ∀ t s, aliasOf (g t) = some s → s = p.d → t = p.d) := by
  refine ⟨fun t s ha hk => ?_, fun hg t s ha hk => ?_⟩
  · obtain ⟨q, hq, rfl, e2⟩ := h t s ha
    have := hsafe q hq
    simp only [safePair, e2, Bool.and_eq_true, Bool.or_eq_true, Bool.not_eq_true', List.contains_eq_mem, decide_eq_false_iff_not, decide_eq_true_eq] at this
    rcases this.1 with h1 | h1
    · exact absurd hk h1
    · exact h1
  · obtain ⟨q, hq, rfl, e2⟩ := h t s ha
    have := hsafe q hq
    simp only [safePair, e2, Bool.and_eq_true, Bool.or_eq_true, bne_iff_ne, ne_eq, beq_iff_eq] at this
    rcases this.2 with (h1 | h1) | h1
    · exact absurd hk h1
    · exact h1
    · cases hq : p.guard <;> simp [hq] at hg h1

/-- no fence but, maybe, a round of a range over a function -/
def WF (rd : Option Nat) : Fence := { Fence.wide with round := rd }

theorem callsWF {rd : Option Nat} {nn : Nat} {f : FuncId} {args : Array Value} {R : Ending → World → Prop} (h : Calls P f args w R) : CallsIn (WF rd) nn P f args w R :=
  (callsIn_wide (n := nn)).2 h

theorem semAt_chk {rd : Option Nat} {k : K} {ρ : Operand → Value} (hc : chkOp P o k = true) (hk : k ≠ .bad) : o.semAt rd ρ = execOp ρ o := by
  cases rd with
  | none => rfl
  | some l =>
    refine Oper.semAt_some l ρ o fun c e => ?_
    cases k <;> simp [chkOp, e] at hc hk

variable (hL : ∀ w w', L w → Below w.heap.size w w' → L w')
include hL

theorem step_sound {rd : Option Nat} {nn : Nat} {okf : Nat → Bool} (hn : ∀ d, okf d = true → n.Has d) {p : PO} {g' : G} {a : Act} {ops : Array Oper} {Kk : Act → World → Prop} {Q : Exit → Act → World → Prop} (hc : chkPO P okf ops o p = true) (hI : Inv P n S0 w0 S O g a.tmps w)
    (hL0 : L w0) (hst : StepTo P L p g g') (hal : ∀ t s, aliasOf (g t) = some s → s ∈ p.kills → t ∈ p.kills) (hal2 : p.guard.isSome = true → ∀ t s, aliasOf (g t) = some s → s = p.d → t = p.d)
    (hK : ∀ tm' w', Good P n S0 w0 g' tm' w' → Kk ⟨tm', a.defers⟩ w') : if Region.wanted o (yielded ops a.tmps) then o.wpIn (WF rd) nn P a w Kk Q else (∀ f, o.about P w a.eval = some f → (WF rd).fn f) ∧ Kk (a.put o.dst undef) w := by
  simp only [chkPO, Bool.and_eq_true, beq_iff_eq] at hc
  obtain ⟨⟨⟨hc1, hc2⟩, hc3⟩, hc4⟩ := hc
  have hLw : L w := hL _ _ hL0 hI.below
  -- the operation that runs
  have hbad : Do P L p g g' → p.k ≠ .bad := by
    intro hdo e
    rcases hdo with ⟨l, hl, _⟩ | ⟨f, ds, r, hce, _⟩
    · rw [e] at hl; cases hl
    · rw [e] at hce; cases hce
  have run : Do P L p g g' → (∀ t s, aliasOf (g t) = some s → s ∈ p.k.kills p.d → t ∈ p.k.kills p.d) → o.wpIn (WF rd) nn P a w Kk Q := by
    intro hdo hal1
    have hsem : o.semAt (WF rd).round a.eval = execOp a.eval o := semAt_chk hc1 (hbad hdo)
    rcases hdo with ⟨l, hl, rfl⟩ | ⟨f, ds, r, hce, hC, rfl⟩
    · by_cases hst : ∃ m x v, p.k = .st m x v
      · obtain ⟨m, x, v, hk⟩ := hst
        rw [hk] at hc1 hl hc3
        obtain ⟨w', h1, h2⟩ := sound_st (dst := p.d) hI hc1 hl
        have hd : p.dst = none := by cases hq : p.dst <;> simp [hq] at hc3 ⊢
        refine ⟨fun _ _ => trivial, ?_⟩
        rw [hsem, eval_eq, h1, Oper.uponIn_skip, hc2, hd]
        exact hK _ _ h2
      · by_cases hsO : ∃ t v ks, p.k = .sgO t v ks
        case pos =>
          obtain ⟨t, v, ks, hk⟩ := hsO
          rw [hk] at hc1 hl hc3 hal1
          obtain ⟨w', h1, h2⟩ := sound_sgO (dst := p.d) hI hc1 hl hal1
          have hd : p.dst = none := by cases hq : p.dst <;> simp [hq] at hc3 ⊢
          refine ⟨fun _ _ => trivial, ?_⟩
          rw [hsem, eval_eq, h1, Oper.uponIn_skip, hc2, hd]
          exact hK _ _ h2
        by_cases hsP : ∃ t v ks, p.k = .sgP t v ks
        case pos =>
          obtain ⟨t, v, ks, hk⟩ := hsP
          rw [hk] at hc1 hl hc3 hal1
          obtain ⟨w', h1, h2⟩ := sound_sgP (dst := p.d) hI hc1 hl hal1
          have hd : p.dst = none := by cases hq : p.dst <;> simp [hq] at hc3 ⊢
          refine ⟨fun _ _ => trivial, ?_⟩
          rw [hsem, eval_eq, h1, Oper.uponIn_skip, hc2, hd]
          exact hK _ _ h2
        by_cases hsM : ∃ q t i v ks, p.k = .sgM q t i v ks
        case pos =>
          obtain ⟨q, t, i, v, ks, hk⟩ := hsM
          rw [hk] at hc1 hl hc3 hal1
          obtain ⟨w', h1, h2⟩ := sound_sgM (dst := p.d) hI hc1 hl hal1
          have hd : p.dst = none := by cases hq : p.dst <;> simp [hq] at hc3 ⊢
          refine ⟨fun _ _ => trivial, ?_⟩
          rw [hsem, eval_eq, h1, Oper.uponIn_skip, hc2, hd]
          exact hK _ _ h2
        by_cases hsQ : ∃ t z, p.k = .stQ t z
        case pos =>
          obtain ⟨t, z, hk⟩ := hsQ
          rw [hk] at hc1 hl hc3 hal1
          obtain ⟨w', h1, h2⟩ := sound_stQ (dst := p.d) hI hc1 hl hal1
          have hd : p.dst = none := by cases hq : p.dst <;> simp [hq] at hc3 ⊢
          refine ⟨fun _ _ => trivial, ?_⟩
          rw [hsem, eval_eq, h1, Oper.uponIn_skip, hc2, hd]
          exact hK _ _ h2
        have hnQ : ∀ t z, p.k ≠ .stQ t z := fun t z e => hsQ ⟨t, z, e⟩
        have hns : ∀ m x v, p.k ≠ .st m x v := fun m x v e => hst ⟨m, x, v, e⟩
        have hnO : ∀ t v ks, p.k ≠ .sgO t v ks := fun t v ks e => hsO ⟨t, v, ks, e⟩
        have hnP : ∀ t v ks, p.k ≠ .sgP t v ks := fun t v ks e => hsP ⟨t, v, ks, e⟩
        have hnM : ∀ q t i v ks, p.k ≠ .sgM q t i v ks := fun q t i v ks e => hsM ⟨q, t, i, v, ks, e⟩
        have hd : ∃ d, p.dst = some d ∧ n.Has d ∧ d ∉ p.k.reads := by
          cases hq : p.dst with
          | none => rw [hq] at hc3; cases hk : p.k <;> rw [hk] at hc3 <;> simp at hc3 <;> first | exact absurd hk (hns _ _ _) | exact absurd hk (hnO _ _ _) | exact absurd hk (hnP _ _ _) | exact absurd hk (hnM _ _ _ _ _) | exact absurd hk (hnQ _ _)
          | some d =>
            rw [hq] at hc3
            refine ⟨d, rfl, ?_⟩
            cases hk : p.k <;> rw [hk] at hc3 <;> first
              | (simp only [Bool.and_eq_true, decide_eq_true_eq, Bool.not_eq_true', List.contains_eq_mem, decide_eq_false_iff_not] at hc3; exact ⟨hn _ hc3.1, hc3.2⟩)
              | (exact absurd hk (hns _ _ _))
              | (exact absurd hk (hnO _ _ _))
              | (exact absurd hk (hnP _ _ _))
              | (exact absurd hk (hnM _ _ _ _ _))
              | (exact absurd hk (hnQ _ _))
              | (rw [hk] at hl; cases hl)
        obtain ⟨d, hd1, hd2, hd3⟩ := hd
        have hpd : p.d = d := by simp [PO.d, hd1]
        rw [hpd] at hl hal1
        obtain ⟨v, w', h1, h2⟩ := sound_all (dst := d) p.k (.inr ⟨l, hl⟩) hns hnO hnP hnM hnQ hI hc1 hd3 hd2 hl hal1
        refine ⟨fun _ _ => trivial, ?_⟩
        rw [hsem, eval_eq, h1, Oper.uponIn_value, hc2, hd1]
        exact hK _ _ h2
    · have hd : ∃ d, p.dst = some d ∧ n.Has d ∧ d ∉ p.k.reads := by
        cases hk : p.k <;> rw [hk] at hce <;> simp only [K.callee] at hce <;> try (cases hce; done)
        all_goals
          cases hq : p.dst with
          | none => rw [hk, hq] at hc3; simp at hc3
          | some d =>
            rw [hk, hq] at hc3
            simp only [Bool.and_eq_true, decide_eq_true_eq, Bool.not_eq_true', List.contains_eq_mem, decide_eq_false_iff_not] at hc3
            exact ⟨d, rfl, hn _ hc3.1, hc3.2⟩
      obtain ⟨d, hd1, hd2, hd3⟩ := hd
      have hpd : p.d = d := by simp [PO.d, hd1]
      rw [hpd] at hal1 hK
      have fin : ∀ vs : List Value, (∀ S' gd, Inv P n S0 w0 S' O gd a.tmps w → gd = dullAll g ((callArgs p.k).filterMap PX.slot) → Reps S' w ds vs) →
          ((∃ f' args, p.k = .call f' args) ∨ ∃ t args, p.k = .callV t args) → (execOp (rho a.tmps) o).run P w = .ok (.enter f vs.toArray) w → o.wpIn (WF rd) nn P a w Kk Q := by
        intro vs hargs hkind hex
        have h1 := calls_pure hI hkind hd2 hd3 hal1 hC hLw hargs
        refine ⟨fun _ _ => trivial, ?_⟩
        rw [hsem, eval_eq, hex, Oper.uponIn_enter]
        refine ⟨fun h => (by cases h), callsWF (h1.mono ?_)⟩
        rintro e w' ⟨v, rfl, hg⟩
        rw [hc2, hd1]
        exact hK _ _ hg
      cases hk : p.k <;> rw [hk] at hce <;> simp only [K.callee] at hce <;> try (cases hce; done)
      · rename_i f' args
        rw [Option.map_eq_some_iff] at hce
        obtain ⟨ds', h1, h2⟩ := hce
        cases h2
        rw [hk] at hc1
        obtain ⟨as, h3, h4⟩ := exec_call (P := P) (w := w) (tm := a.tmps) hc1
        refine fin (as.map (rho a.tmps)) (fun S' gd hI' hgd => ?_) (.inl ⟨_, _, hk⟩) h4
        rw [hk] at hgd
        exact Inv.lends gd hI' args hgd as args ds h3 (fun _ h => h) h1
      · rename_i t args
        split at hce <;> try (cases hce; done)
        rename_i f' caps hgt
        rw [Option.map_eq_some_iff] at hce
        obtain ⟨ds', h1, h2⟩ := hce
        cases h2
        rw [hk] at hc1
        have hrt := hI.rep (t := t) (by rw [hgt]; rfl)
        rw [hgt] at hrt
        generalize hq : a.tmps.getD t undef = q at hrt
        obtain ⟨cvs, rfl⟩ : ∃ cvs : List Value, q = .func (.func f) #[] cvs.toArray := by cases hrt; exact ⟨_, rfl⟩
        obtain ⟨as, h3, h4⟩ := exec_callV (P := P) (w := w) (tm := a.tmps) (f := f) (caps := cvs) hc1 hq hC.1.1
        refine fin (as.map (rho a.tmps) ++ cvs) (fun S' gd hI' hgd => ?_) (.inr ⟨_, _, hk⟩) h4
        rw [hk] at hgd
        have h5 := Inv.lends gd hI' args hgd as args ds' h3 (fun _ h => h) h1
        have h6 : gd t = .clo f caps := by
          rw [hgd]; simp only [Pi.dullAll]
          split
          · rw [hgt]; rfl
          · exact hgt
        have h7 := hI'.rep (t := t) (by rw [h6]; rfl)
        rw [h6, hq] at h7
        exact h5.app h7.clo_inv
  unfold StepTo at hst
  cases hg1 : o.guard with
  | none =>
    have hg2 : p.guard = none := by cases hq : p.guard <;> simp [hg1, hq] at hc4 ⊢
    rw [hg2] at hst
    rw [if_pos (by simp [Region.wanted, hg1])]
    exact run hst hal
  | some jw =>
    obtain ⟨j, want⟩ := jw
    cases hg2 : p.guard with
    | none => simp [hg1, hg2] at hc4
    | some sw =>
      obtain ⟨s, want'⟩ := sw
      rw [hg2] at hst
      simp only [hg1, hg2, Bool.and_eq_true, beq_iff_eq, decide_eq_true_eq] at hc4
      obtain ⟨⟨hj, rfl⟩, hsd⟩ := hc4
      have hdd : ∃ d, p.dst = some d := by
        cases hq : p.dst with
        | some d => exact ⟨d, rfl⟩
        | none => rw [hq, hg2] at hc3; cases hk : p.k <;> rw [hk] at hc3 <;> simp at hc3
      obtain ⟨d, hd1⟩ := hdd
      have hdok : n.Has d := by
        rw [hd1] at hc3
        cases hk : p.k <;> rw [hk] at hc3 <;> first
          | (exact hn _ hc3)
          | (simp only [Bool.and_eq_true] at hc3; exact hn _ hc3.1)
          | (cases hc3; done)
      have hpd : p.d = d := by simp [PO.d, hd1]
      have skip : g' = upd g p.d (.tup []) → Kk (a.put o.dst undef) w := fun h => by
        subst h
        rw [hc2, hd1]
        rw [hpd] at hK hal2
        exact hK _ _ ⟨_, _, _, hI.setPure (v := undef) hI.extRefl (fun _ _ z => z) (fun _ _ z => .inl z) (.tup [] [] rfl (fun i d v hi => by simp at hi)) hdok (hal2 (by simp [hg2]))⟩
      rcases hst with ⟨b, hb, hst⟩ | ⟨hs, hst⟩
      · have hrep := hI.rep (t := s) (by rw [hb]; rfl)
        rw [hb] at hrep
        have hval := hrep.bool_inv
        have hget : a.tmps[s]? = some (.bool b) := by
          cases hq : a.tmps[s]? with
          | none => simp [Array.getD_eq_getD_getElem?, hq, undef] at hval
          | some x => simp [Array.getD_eq_getD_getElem?, hq] at hval; rw [hval]
        have hy : yielded ops a.tmps j = some b := by
          unfold yielded
          rw [hj]
          simp [hget]
        by_cases hbw : b = want
        · rw [if_pos hbw] at hst
          rw [if_pos (by simp [Region.wanted, hg1, hy, hbw])]
          exact run hst hal
        · rw [if_neg hbw] at hst
          rw [if_neg (by simp [Region.wanted, hg1, hy, hbw])]
          exact ⟨fun _ _ => trivial, skip hst⟩
      · have hrep := hI.rep (t := s) (by rw [hs]; rfl)
        rw [hs] at hrep
        have hval : a.tmps.getD s undef = .tuple #[] := by
          generalize a.tmps.getD s undef = v at hrep
          cases hrep with
          | tup _ vs hl h => cases vs with | nil => rfl | cons _ _ => simp at hl
        have hy : yielded ops a.tmps j = none := by
          unfold yielded
          rw [hj]
          cases hq : a.tmps[s]? with
          | none => simp [hq]
          | some x => simp [Array.getD_eq_getD_getElem?, hq] at hval; simp [hq, hval]
        rw [if_neg (by simp [Region.wanted, hg1, hy])]
        exact ⟨fun _ _ => trivial, skip hst⟩

end Go.Pi

/-
  REGIONS: in the order of the text, and in whatever order. Own work.
-/
namespace Go.Pi
open Go Go.RowKit

variable {P : Program} {L : World → Prop} {n : Nz} {S0 S : Nat → Nat → Prop} {w0 w : World} {O : Nat → Option Nat} {g : G} {tm : Array Value} {o : Oper} {dst : Nat}

/-- steps, one behind the other -/
def Seq (P : Program) (L : World → Prop) : List PO → G → G → Prop
  | [], g, g' => g' = g
  | p :: ps, g, g' => ∃ g1, StepTo P L p g g1 ∧ Seq P L ps g1 g'

/-- the updates of a step, and that they hang on what it reads alone -/
theorem StepTo.upds {p : PO} {g' : G} (h : StepTo P L p g g') : ∃ l : List (Nat × D), (∀ q ∈ l, q.1 ∈ p.writes) ∧ g' = Pi.upds g l ∧ ∀ h : G, (∀ t ∈ p.reads, h t = g t) → StepTo P L p h (Pi.upds h l) := by
  have hdo : Do P L p g g' → ∃ l : List (Nat × D), (∀ q ∈ l, q.1 ∈ p.writes) ∧ g' = Pi.upds g l ∧ ∀ h : G, (∀ t ∈ p.k.reads, h t = g t) → Do P L p h (Pi.upds h l) := by
    rintro (⟨l, hl, rfl⟩ | ⟨f, ds, r, hc, hC, rfl⟩)
    · refine ⟨l, fun q hq => PO.mem_writes (K.run_upd hl q hq).1, rfl, fun h hh => .inl ⟨l, ?_, rfl⟩⟩
      rw [K.run_congr hh]; exact hl
    · refine ⟨_, fun q hq => PO.mem_writes (after_upd hC.1.2 q hq).1, rfl, fun h hh => .inr ⟨f, ds, r, ?_, hC, ?_⟩⟩
      · rw [K.callee_congr hh]; exact hc
      · rw [K.after_congr hh]
  unfold StepTo at h
  cases hg : p.guard with
  | none =>
    rw [hg] at h
    obtain ⟨l, h1, h2, h3⟩ := hdo h
    refine ⟨l, h1, h2, fun h' hh => ?_⟩
    unfold StepTo
    rw [hg]
    exact h3 h' (fun t ht => hh t (by simp [PO.reads, hg, ht]))
  | some sw =>
    obtain ⟨s, want⟩ := sw
    rw [hg] at h
    have hskip : g' = upd g p.d (.tup []) → (∀ h' : G, (∀ t ∈ p.reads, h' t = g t) → StepTo P L p h' (Pi.upds h' [(p.d, .tup [])])) → ∃ l : List (Nat × D), (∀ q ∈ l, q.1 ∈ p.writes) ∧ g' = Pi.upds g l ∧ ∀ h : G, (∀ t ∈ p.reads, h t = g t) → StepTo P L p h (Pi.upds h l) :=
      fun h k => ⟨[(p.d, .tup [])], fun q hq => by simp at hq; subst hq; exact PO.d_mem (by rw [hg]; rfl), h, k⟩
    rcases h with ⟨b, hb, h⟩ | ⟨hs, h⟩
    case inr =>
      refine hskip h fun h' hh => ?_
      unfold StepTo
      rw [hg]
      exact .inr ⟨by rw [hh s (by simp [PO.reads, hg])]; exact hs, rfl⟩
    by_cases hbw : b = want
    · rw [if_pos hbw] at h
      obtain ⟨l, h1, h2, h3⟩ := hdo h
      refine ⟨l, h1, h2, fun h' hh => ?_⟩
      unfold StepTo
      rw [hg]
      refine .inl ⟨b, by rw [hh s (by simp [PO.reads, hg])]; exact hb, ?_⟩
      rw [if_pos hbw]
      exact h3 h' (fun t ht => hh t (by simp [PO.reads, hg, ht]))
    · rw [if_neg hbw] at h
      refine hskip h fun h' hh => ?_
      unfold StepTo
      rw [hg]
      refine .inl ⟨b, by rw [hh s (by simp [PO.reads, hg])]; exact hb, ?_⟩
      rw [if_neg hbw]; rfl

/-- q and p may change places -/
def apart (q p : PO) : Bool :=
  q.writes.all (fun t => !p.reads.contains t && !p.writes.contains t) && p.writes.all (fun t => !q.reads.contains t)

theorem upds_swap {l m : List (Nat × D)} (h : ∀ q ∈ l, ∀ r ∈ m, q.1 ≠ r.1) (g : G) : upds (upds g l) m = upds (upds g m) l := by
  funext t
  by_cases h1 : ∃ q ∈ l, q.1 = t
  · have h2 : ∀ r ∈ m, r.1 ≠ t := fun r hr e => by
      obtain ⟨q, hq, e'⟩ := h1
      exact h q hq r hr (e'.trans e.symm)
    rw [upds_notin h2]
    have key : ∀ (l : List (Nat × D)) (g g' : G), (∃ q ∈ l, q.1 = t) → upds g l t = upds g' l t := by
      intro l
      induction l with
      | nil => intro g g' h; obtain ⟨q, hq, _⟩ := h; simp at hq
      | cons q l ih =>
        intro g g' h
        obtain ⟨s, d⟩ := q
        simp only [upds]
        by_cases hin : ∃ q ∈ l, q.1 = t
        · exact ih _ _ hin
        · have hnot : ∀ q ∈ l, q.1 ≠ t := fun q hq e => hin ⟨q, hq, e⟩
          rw [upds_notin hnot, upds_notin hnot]
          obtain ⟨q, hq, e⟩ := h
          rcases List.mem_cons.1 hq with rfl | hq
          · simp only at e; subst e; simp [upd]
          · exact absurd ⟨q, hq, e⟩ hin
    exact key l _ _ h1
  · have h2 : ∀ q ∈ l, q.1 ≠ t := fun q hq e => h1 ⟨q, hq, e⟩
    rw [upds_notin h2 (g := upds g m)]
    by_cases h3 : ∃ r ∈ m, r.1 = t
    · have key : ∀ (l : List (Nat × D)) (g g' : G), (∃ q ∈ l, q.1 = t) → upds g l t = upds g' l t := by
        intro l
        induction l with
        | nil => intro g g' h; obtain ⟨q, hq, _⟩ := h; simp at hq
        | cons q l ih =>
          intro g g' h
          obtain ⟨s, d⟩ := q
          simp only [upds]
          by_cases hin : ∃ q ∈ l, q.1 = t
          · exact ih _ _ hin
          · have hnot : ∀ q ∈ l, q.1 ≠ t := fun q hq e => hin ⟨q, hq, e⟩
            rw [upds_notin hnot, upds_notin hnot]
            obtain ⟨q, hq, e⟩ := h
            rcases List.mem_cons.1 hq with rfl | hq
            · simp only at e; subst e; simp [upd]
            · exact absurd ⟨q, hq, e⟩ hin
      exact key m _ _ h3
    · have h4 : ∀ r ∈ m, r.1 ≠ t := fun r hr e => h3 ⟨r, hr, e⟩
      rw [upds_notin h4, upds_notin h4, upds_notin h2]

theorem StepTo.swap {p q : PO} {g1 g2 : G} (h1 : StepTo P L q g g1) (h2 : StepTo P L p g1 g2) (ha : apart q p = true) : ∃ g1', StepTo P L p g g1' ∧ StepTo P L q g1' g2 := by
  obtain ⟨lq, hq1, rfl, hq3⟩ := h1.upds
  obtain ⟨lp, hp1, rfl, hp3⟩ := h2.upds
  simp only [apart, Bool.and_eq_true, List.all_eq_true, Bool.not_eq_true', List.contains_eq_mem, decide_eq_false_iff_not] at ha
  obtain ⟨a1, a2⟩ := ha
  refine ⟨Pi.upds g lp, hp3 g (fun t ht => (upds_notin (fun r hr e => (a1 _ (hq1 r hr)).1 (e ▸ ht))).symm), ?_⟩
  rw [upds_swap (fun r hr s hs e => (a1 _ (hq1 r hr)).2 (e ▸ hp1 s hs)) g]
  exact hq3 _ (fun t ht => upds_notin (fun r hr e => a2 _ (hp1 r hr) (e ▸ ht)))

/-! a load and the lending of what it reads -/
theorem dull_mem (d : D) : d.dull.mem = d.mem := by cases d <;> rfl
theorem dullAll_or (ss : List Nat) (t : Nat) : dullAll g ss t = (g t).dull ∨ dullAll g ss t = g t := by
  by_cases h : t ∈ ss
  · exact .inl (if_pos h)
  · exact .inr (if_neg h)
theorem at_dullAll (x : PX) (ss : List Nat) : x.at (dullAll g ss) = x.at g := by
  cases x with
  | v t =>
    rcases dullAll_or (g := g) ss t with e | e
    · simp only [PX.at, e]; cases g t <;> rfl
    · simp only [PX.at, e]
  | k d => rfl
  | o t s =>
    rcases dullAll_or (g := g) ss t with e | e <;> rcases dullAll_or (g := g) ss s with e2 | e2 <;> simp only [PX.at, e, e2] <;> cases g t <;> try rfl
    all_goals (simp only [D.dull]; cases g s <;> rfl)
theorem cells_dullAll (p : Where) (ss : List Nat) : p.cells (dullAll g ss) = p.cells g := by
  cases p with
  | own s off =>
    show (if s ∈ ss then (g s).dull else g s).mem.drop off = _
    split
    · rw [dull_mem]; rfl
    · rfl
  | imm cs => rfl
/-- a load finds the same when slots are lent -/
theorem ld_dullAll (dst : Nat) (ag : Bool) (n : Nat) (x : PX) (ss : List Nat) : K.run dst (dullAll g ss) (.ld ag n x) = K.run dst g (.ld ag n x) := by
  simp only [K.run, at_dullAll, cells_dullAll]
/-- q loads, p makes a function: p may go first, also where it lends what q reads -/
def softLM (q p : PO) : Bool := match q.k, p.k with
  | .ld _ _ x, .mkf _ _ => q.guard.isNone && p.guard.isNone && !p.reads.contains q.d && !p.writes.contains q.d && !x.reads.contains p.d && !p.k.reads.contains p.d
  | _, _ => false
theorem StepTo.soft {p q : PO} {g1 g2 : G} (h1 : StepTo P L q g g1) (h2 : StepTo P L p g1 g2) (ha : softLM q p = true) : ∃ g1', StepTo P L p g g1' ∧ StepTo P L q g1' g2 := by
  unfold softLM at ha
  split at ha
  case h_2 => cases ha
  rename_i ag n x f xs hqk hpk
  simp only [Bool.and_eq_true, Option.isNone_iff_eq_none, Bool.not_eq_true', List.contains_eq_mem, decide_eq_false_iff_not] at ha
  obtain ⟨⟨⟨⟨⟨hq, hp⟩, a1⟩, a2⟩, a3⟩, a4⟩ := ha
  obtain ⟨lp, hp1, hp2, hp3⟩ := h2.upds
  unfold StepTo at h1 h2
  rw [hq] at h1; rw [hp] at h2
  have hl : ∃ d, K.run q.d g q.k = some [(q.d, d)] ∧ g1 = Pi.upds g [(q.d, d)] := by
    rcases h1 with ⟨l, hl, rfl⟩ | ⟨f', ds, r, hc, _⟩
    · rw [hqk] at hl
      simp only [K.run] at hl
      split at hl
      · rename_i w hw
        rw [Option.map_eq_some_iff] at hl
        obtain ⟨d, hd, rfl⟩ := hl
        refine ⟨d, ?_, rfl⟩
        rw [hqk]; simp only [K.run, hw, hd, Option.map_some]
      · cases hl
    · rw [hqk] at hc; cases hc
  obtain ⟨d, hld, rfl⟩ := hl
  have hm : ∃ ds, K.run p.d (Pi.upds g [(q.d, d)]) p.k = some ((p.d, .clo f ds) :: dulls (Pi.upds g [(q.d, d)]) xs) ∧ g2 = Pi.upds (Pi.upds g [(q.d, d)]) ((p.d, .clo f ds) :: dulls (Pi.upds g [(q.d, d)]) xs) := by
    rcases h2 with ⟨l, hl, rfl⟩ | ⟨f', ds, r, hc, _⟩
    · rw [hpk] at hl
      have hl0 := hl
      simp only [K.run] at hl
      rw [Option.map_eq_some_iff] at hl
      obtain ⟨ds, hd, rfl⟩ := hl
      exact ⟨ds, by rw [hpk]; exact hl0, rfl⟩
    · rw [hpk] at hc; cases hc
  obtain ⟨ds, hmr, rfl⟩ := hm
  have hr : ∀ t ∈ p.reads, g t = Pi.upds g [(q.d, d)] t := fun t ht => by
    have : t ≠ q.d := fun e => a1 (e ▸ ht)
    simp [Pi.upds, upd, this]
  have hsl : ∀ s ∈ xs.filterMap PX.slot, s ≠ q.d := fun s hs e => a2 (by
    rw [← e]; exact PO.mem_writes (by rw [hpk]; exact List.mem_cons_of_mem _ hs))
  have hdd : p.d ≠ q.d := fun e => a2 (by rw [← e]; exact PO.mem_writes (by rw [hpk]; exact List.mem_cons_self ..))
  have hpr : ∀ t ∈ p.k.reads, g t = Pi.upds g [(q.d, d)] t := fun t ht => hr t (List.mem_append_right _ ht)
  have hdl : dulls (Pi.upds g [(q.d, d)]) xs = dulls g xs := by
    refine dulls_congr fun t ht => (hpr t ?_).symm
    rw [hpk]; exact ht
  rw [hdl] at hmr ⊢
  have hmg : K.run p.d g p.k = some ((p.d, .clo f ds) :: dulls g xs) := by
    rw [K.run_congr hpr]; exact hmr
  refine ⟨Pi.upds g ((p.d, .clo f ds) :: dulls g xs), ?_, ?_⟩
  · unfold StepTo; rw [hp]; exact .inl ⟨_, hmg, rfl⟩
  · unfold StepTo; rw [hq]
    refine .inl ⟨[(q.d, d)], ?_, ?_⟩
    · have e1 : ∀ t ∈ q.k.reads, Pi.upds g ((p.d, .clo f ds) :: dulls g xs) t = dullAll g (xs.filterMap PX.slot) t := fun t ht => by
        rw [hqk] at ht
        have htd : t ≠ p.d := fun e => a3 (e ▸ ht)
        simp only [Pi.upds]
        rw [upds_dulls xs (upd g p.d (.clo f ds)) g (fun s hs => by
          simp only [upd]; split
          · rename_i e
            subst e
            obtain ⟨y, hy, hys⟩ := List.mem_filterMap.1 hs
            exact absurd (by rw [hpk]; exact List.mem_flatMap.2 ⟨y, hy, PX.slot_reads hys⟩) a4
          · rfl)]
        simp only [dullAll, upd, if_neg htd]
      rw [K.run_congr e1, hqk, ld_dullAll, ← hqk]; exact hld
    · refine upds_swap (fun a ha b hb => ?_) g
      simp only [List.mem_singleton] at ha
      subst ha
      rcases List.mem_cons.1 hb with rfl | hb
      · exact fun e => hdd e.symm
      · exact fun e => hsl _ (dulls_fst xs b hb).1 e.symm
/-- q and p may change places, or q only loads what p lends -/
def apartX (q p : PO) : Bool := apart q p || softLM q p
theorem StepTo.swapX {p q : PO} {g1 g2 : G} (h1 : StepTo P L q g g1) (h2 : StepTo P L p g1 g2) (ha : apartX q p = true) : ∃ g1', StepTo P L p g g1' ∧ StepTo P L q g1' g2 := by
  unfold apartX at ha
  rcases Bool.or_eq_true _ _ ▸ ha with h | h
  · exact h1.swap h2 h
  · exact h1.soft h2 h

theorem Seq.front {p : PO} {post : List PO} : ∀ {pre : List PO} {g gf : G}, Seq P L (pre ++ p :: post) g gf → (∀ q ∈ pre, apartX q p = true) → ∃ g1, StepTo P L p g g1 ∧ Seq P L (pre ++ post) g1 gf
  | [], g, gf, h, _ => h
  | q :: pre, g, gf, h, ha => by
    obtain ⟨g1, h1, h2⟩ := h
    obtain ⟨g2, h3, h4⟩ := Seq.front (pre := pre) h2 (fun r hr => ha r (List.mem_cons_of_mem _ hr))
    obtain ⟨g1', h5, h6⟩ := h1.swapX h3 (ha q (List.mem_cons_self ..))
    exact ⟨g1', h5, g2, h6, h4⟩

/-- the check of the operations of a region, one by one -/
def chkList (P : Program) (ok : Nat → Bool) (ops : Array Oper) : List Oper → List PO → Bool
  | [], [] => true
  | o :: os, p :: ps => chkPO P ok ops o p && chkList P ok ops os ps
  | _, _ => false

/-- slots that an operation empties -/
def K.clears : K → List Nat
  | .tk t => [t]
  | .app _ _ _ x _ => x.reads
  | _ => []

def PO.rest (p : PO) (done : List PO) : List PO := p :: (if p.guard.isNone then done.filter (fun q => !(p.k.clears.contains q.d && q.d != p.d)) else done)

theorem StepTo.clears {p : PO} {g' : G} (h : StepTo P L p g g') (hg : p.guard = none) : ∀ t ∈ p.k.clears, t ≠ p.d → aliasOf (g' t) = none := by
  intro t ht hd
  unfold StepTo at h
  rw [hg] at h
  rcases h with ⟨l, hl, rfl⟩ | ⟨f, ds, r, hce, hC, rfl⟩
  · cases hk : p.k <;> rw [hk] at ht hl <;> simp only [K.clears] at ht <;> try (cases ht; done)
    · rename_i t'
      simp only [List.mem_singleton] at ht; subst ht
      simp only [K.run] at hl
      split at hl <;> cases hl
      simp [Pi.upds, Pi.upd, aliasOf]
    · rename_i e sz bytes x y
      simp only [K.run] at hl
      split at hl <;> try (cases hl; done)
      rename_i s _ _ _ _ _ _ hs _ _
      split at hl <;> try (cases hl; done)
      cases x with
      | v t' =>
        simp only [PX.slot, Option.some.injEq] at hs; subst hs
        simp only [PX.reads, List.mem_singleton] at ht; subst ht
        cases hl
        simp [Pi.upds, Pi.upd, aliasOf]
      | k d => simp [PX.slot] at hs
      | o t' s' =>
        simp only [PX.slot, Option.some.injEq] at hs; subst hs
        simp only [PX.reads, List.mem_cons, List.not_mem_nil, or_false] at ht
        cases hl
        rcases ht with rfl | rfl
        · simp [Pi.upds, Pi.upd, aliasOf]
        · simp only [Pi.upds, Pi.upd, if_true]
          split <;> rfl
  · cases hk : p.k <;> rw [hk] at ht hce <;> simp only [K.clears] at ht <;> first | (cases ht; done) | (cases hce; done)

theorem AliasIn.step2 {done : List PO} {p : PO} {g' : G} (h : AliasIn done g) (hs : StepTo P L p g g') : AliasIn (p.rest done) g' := by
  intro t s ha
  obtain ⟨q, hq, e1, e2⟩ := h.step hs t s ha
  unfold PO.rest
  rcases List.mem_cons.1 hq with rfl | hq
  · exact ⟨q, List.mem_cons_self .., e1, e2⟩
  · refine ⟨q, List.mem_cons_of_mem _ ?_, e1, e2⟩
    split
    · rename_i hg
      refine List.mem_filter.2 ⟨hq, ?_⟩
      by_cases h1 : q.d ∈ p.k.clears ∧ q.d ≠ p.d
      · have := hs.clears (by simpa using hg) q.d h1.1 h1.2
        rw [e1, ha] at this; cases this
      · simp only [Bool.not_eq_true', Bool.and_eq_false_iff, List.contains_eq_mem, decide_eq_false_iff_not, bne_eq_false_iff_eq]
        by_cases h2 : q.d ∈ p.k.clears
        · exact .inr (Classical.byContradiction fun h3 => h1 ⟨h2, h3⟩)
        · exact .inl h2
    · exact hq

def safeOrd : List PO → List PO → Bool
  | _, [] => true
  | done, p :: ps => done.all (fun q => safePair q p) && safeOrd (p.rest done) ps

section
variable (hL : ∀ w w', L w → Below w.heap.size w w' → L w')
include hL

theorem wpList_sound {rd : Option Nat} {nn : Nat} {okf : Nat → Bool} (hn : ∀ d, okf d = true → n.Has d) {ops : Array Oper} {Q : Exit → Act → World → Prop} {gf : G} {df : List Deferred} (hL0 : L w0) (hQ : ∀ tm w, Good P n S0 w0 gf tm w → Q .normal ⟨tm, df⟩ w) :
    ∀ (os : List Oper) (ps done : List PO) (g : G) (tm : Array Value) (w : World), chkList P okf ops os ps = true → safeOrd done ps = true → AliasIn done g → Good P n S0 w0 g tm w → Seq P L ps g gf →
      wpListIn (WF rd) nn P ops Q os ⟨tm, df⟩ w := by
  intro os
  induction os with
  | nil =>
    intro ps done g tm w hc hs ha hg hq
    cases ps with
    | nil => simp only [Seq] at hq; subst hq; exact hQ tm w hg
    | cons p ps => simp [chkList] at hc
  | cons o os ih =>
    intro ps done g tm w hc hs ha hg hq
    cases ps with
    | nil => simp [chkList] at hc
    | cons p ps =>
      simp only [chkList, Bool.and_eq_true] at hc
      simp only [safeOrd, Bool.and_eq_true, List.all_eq_true] at hs
      obtain ⟨g1, h1, h2⟩ := hq
      obtain ⟨S, O, gv, hI⟩ := hg
      obtain ⟨k1, k2⟩ := safe_kills ha hs.1
      have := step_sound (rd := rd) (nn := nn) hL (n := { n with gv := gv }) hn (Q := Q) (Kk := wpListIn (WF rd) nn P ops Q os) (a := ⟨tm, df⟩) hc.1 hI hL0 h1 k1 k2 (fun tm' w' hg' => ih ps (p.rest done) g1 tm' w' hc.2 hs.2 (ha.step2 h1) hg' h2)
      unfold wpListIn
      exact this
end

/-- the binding predecessors of an operation -/
def preds (ops : Array Oper) (i : Nat) : List Nat :=
  match ops[i]? with
  | some o => (o.after.toList.filter fun e => Region.binds .any e).map (·.on)
  | none => []

/-- the binding predecessors as the bits of a number -/
def pmask (ops : Array Oper) (i : Nat) : Nat := (preds ops i).foldl (fun m j => m ||| 2 ^ j) 0
/-- is j reached from the bits of m, going down from k? -/
def reach (ops : Array Oper) (j : Nat) : Nat → Nat → Bool
  | 0, m => m.testBit j
  | k + 1, m => if m.testBit k then (k == j || reach ops j k (m ||| pmask ops k)) else reach ops j k m
/-- does i come behind j in any order? -/
def behind (ops : Array Oper) (i j : Nat) : Bool := (preds ops i).contains j || reach ops j i (pmask ops i)

theorem mask_bit {l : List Nat} {t : Nat} : ∀ {m : Nat}, (l.foldl (fun m j => m ||| 2 ^ j) m).testBit t = true → m.testBit t = true ∨ t ∈ l := by
  induction l with
  | nil => intro m h; exact .inl h
  | cons a l ih =>
    intro m h
    rw [List.foldl_cons] at h
    rcases ih h with h | h
    · rw [Nat.testBit_or, Bool.or_eq_true] at h
      rcases h with h | h
      · exact .inl h
      · rw [Nat.testBit_two_pow] at h
        exact .inr (by simp at h; simp [h])
    · exact .inr (List.mem_cons_of_mem _ h)
theorem pmask_bit {ops : Array Oper} {i t : Nat} (h : (pmask ops i).testBit t = true) : t ∈ preds ops i := by
  rcases mask_bit h with h | h
  · simp at h
  · exact h
theorem reach_of {ops : Array Oper} {j : Nat} {p : Nat → Prop} (hc : ∀ k, p k → ∀ i ∈ preds ops k, p i) : ∀ {k m : Nat}, (∀ t, m.testBit t = true → p t) → reach ops j k m = true → p j
  | 0, m, hm, h => hm j h
  | k + 1, m, hm, h => by
    unfold reach at h
    split at h
    · rename_i h1
      rw [Bool.or_eq_true] at h
      rcases h with h | h
      · rw [← beq_iff_eq.1 h]; exact hm k h1
      · refine reach_of hc (fun t ht => ?_) h
        rw [Nat.testBit_or, Bool.or_eq_true] at ht
        rcases ht with ht | ht
        · exact hm t ht
        · exact hc k (hm k h1) t (pmask_bit ht)
    · exact reach_of hc hm h
theorem behind_of {ops : Array Oper} {i j : Nat} {p : Nat → Prop} (hc : ∀ k, p k → ∀ i ∈ preds ops k, p i) (hi : ∀ t ∈ preds ops i, p t) (h : behind ops i j = true) : p j := by
  unfold behind at h
  rw [Bool.or_eq_true] at h
  rcases h with h | h
  · exact hi j (by simpa using h)
  · exact reach_of hc (fun t ht => hi t (pmask_bit ht)) h

/-- the check of a region whose order is open -/
def chkDraw (ops : Array Oper) (ps : List PO) : Bool :=
  (List.range ops.size).all fun i => (preds ops i).all (fun j => decide (j < i)) && (List.range ops.size).all fun j =>
    decide (i = j) || match ps[i]?, ps[j]? with
      | some p, some q => (decide (i < j) || (preds ops i).contains j || apartX q p || behind ops i j) && (safePair q p || behind ops j i)
      | _, _ => false

theorem chkList_get {okf : Nat → Bool} {ops : Array Oper} : ∀ {os : List Oper} {ps : List PO}, chkList P okf ops os ps = true → os.length = ps.length ∧ ∀ (i : Nat) (o : Oper) (p : PO), os[i]? = some o → ps[i]? = some p → chkPO P okf ops o p = true
  | [], [], _ => ⟨rfl, fun i o p h => by simp at h⟩
  | [], _ :: _, h => by simp [chkList] at h
  | _ :: _, [], h => by simp [chkList] at h
  | o :: os, p :: ps, h => by
    simp only [chkList, Bool.and_eq_true] at h
    obtain ⟨h1, h2⟩ := chkList_get h.2
    refine ⟨by simp [h1], fun i o' p' ho hp => ?_⟩
    cases i with
    | zero => simp at ho hp; subst ho; subst hp; exact h.1
    | succ i => exact h2 i o' p' (by simpa using ho) (by simpa using hp)

/-- the operations that are still to come, in the order of the text, from place k on -/
def remFrom (listed : Array Bool) : Nat → List PO → List PO
  | _, [] => []
  | k, p :: ps => if listed.getD k true = true then remFrom listed (k + 1) ps else p :: remFrom listed (k + 1) ps

theorem remFrom_split {listed : Array Bool} : ∀ {ps : List PO} {k i : Nat} {p : PO}, ps[i]? = some p → listed.getD (k + i) true = false →
    ∃ pre post, remFrom listed k ps = pre ++ p :: post ∧ remFrom (listed.setIfInBounds (k + i) true) k ps = pre ++ post ∧ ∀ q ∈ pre, ∃ j, j < i ∧ ps[j]? = some q ∧ listed.getD (k + j) true = false
  | [], k, i, p, h, _ => by simp at h
  | q :: ps, k, 0, p, h, hl => by
    simp at h; subst h
    have hk : k < listed.size := by
      rcases Nat.lt_or_ge k listed.size with h | h
      · exact h
      · simp [Array.getD_eq_getD_getElem?, h] at hl
    refine ⟨[], remFrom listed (k + 1) ps, ?_, ?_, fun q hq => by simp at hq⟩
    · simp only [Nat.add_zero] at hl
      simp only [remFrom, hl, Bool.false_eq_true, if_false, List.nil_append]
    · simp only [Nat.add_zero, remFrom, List.nil_append]
      rw [if_pos (by simp [Array.getD_eq_getD_getElem?, hk])]
      have : ∀ (ps : List PO) (m : Nat), k < m → remFrom (listed.setIfInBounds k true) m ps = remFrom listed m ps := by
        intro ps
        induction ps with
        | nil => intro m _; rfl
        | cons r ps ih =>
          intro m hm
          simp only [remFrom]
          rw [ih (m + 1) (by omega)]
          have : (listed.setIfInBounds k true).getD m true = listed.getD m true := by
            simp only [Array.getD_eq_getD_getElem?, Array.getElem?_setIfInBounds_ne (show k ≠ m by omega)]
          rw [this]
      exact this ps (k + 1) (by omega)
  | q :: ps, k, i + 1, p, h, hl => by
    have h' : ps[i]? = some p := by simpa using h
    have e : k + (i + 1) = (k + 1) + i := by omega
    rw [e] at hl ⊢
    obtain ⟨pre, post, h1, h2, h3⟩ := remFrom_split (k := k + 1) h' hl
    have hsame : (listed.setIfInBounds (k + 1 + i) true).getD k true = listed.getD k true := by
      simp only [Array.getD_eq_getD_getElem?, Array.getElem?_setIfInBounds_ne (show k + 1 + i ≠ k by omega)]
    by_cases hq : listed.getD k true = true
    · refine ⟨pre, post, by simp only [remFrom]; rw [if_pos hq]; exact h1, by simp only [remFrom]; rw [hsame, if_pos hq]; exact h2, fun r hr => ?_⟩
      obtain ⟨j, j1, j2, j3⟩ := h3 r hr
      exact ⟨j + 1, by omega, by simpa using j2, by rw [show k + (j + 1) = k + 1 + j by omega]; exact j3⟩
    · refine ⟨q :: pre, post, by simp only [remFrom]; rw [if_neg hq, h1]; rfl, by simp only [remFrom]; rw [hsame, if_neg hq, h2]; rfl, fun r hr => ?_⟩
      rcases List.mem_cons.1 hr with rfl | hr
      · exact ⟨0, by omega, rfl, by simpa using hq⟩
      · obtain ⟨j, j1, j2, j3⟩ := h3 r hr
        exact ⟨j + 1, by omega, by simpa using j2, by rw [show k + (j + 1) = k + 1 + j by omega]; exact j3⟩

theorem remFrom_nil {listed : Array Bool} : ∀ {ps : List PO} {k : Nat}, (∀ i, i < ps.length → listed.getD (k + i) true = true) → remFrom listed k ps = []
  | [], _, _ => rfl
  | p :: ps, k, h => by
    simp only [remFrom]
    rw [if_pos (by simpa using h 0 (by simp))]
    exact remFrom_nil (fun i hi => by have := h (i + 1) (by simp; omega); rwa [show k + (i + 1) = k + 1 + i by omega] at this)

theorem mem_ready2 {ops : Array Oper} {listed : Array Bool} {i : Nat} : i ∈ Region.ready .any ops listed ↔ i < ops.size ∧ listed.getD i true = false ∧ ∀ j ∈ preds ops i, listed.getD j false = true := by
  unfold Region.ready preds
  simp only [List.mem_filter, List.mem_range, Bool.and_eq_true, Bool.not_eq_true']
  constructor
  · rintro ⟨h1, h2, h3⟩
    refine ⟨h1, h2, fun j hj => ?_⟩
    rw [Array.getElem?_eq_getElem h1] at h3 hj
    simp only [Option.map_some, Option.getD_some, Array.all_eq_true_iff_forall_mem] at h3
    simp only [List.mem_map, List.mem_filter, Array.mem_toList_iff] at hj
    obtain ⟨e, ⟨he, hb⟩, rfl⟩ := hj
    have := h3 e he
    simpa [hb] using this
  · rintro ⟨h1, h2, h3⟩
    refine ⟨h1, h2, ?_⟩
    rw [Array.getElem?_eq_getElem h1] at h3 ⊢
    simp only [Option.map_some, Option.getD_some, Array.all_eq_true_iff_forall_mem]
    intro e he
    cases hb : Region.binds .any e with
    | false => rfl
    | true => simpa using h3 e.on (by simp only [List.mem_map, List.mem_filter, Array.mem_toList_iff]; exact ⟨e, ⟨he, hb⟩, rfl⟩)

section
variable (hL : ∀ w w', L w → Below w.heap.size w w' → L w')
include hL

theorem wpAny_sound2 {rd : Option Nat} {nn : Nat} {okf : Nat → Bool} (hn : ∀ d, okf d = true → n.Has d) {ops : Array Oper} {ps : List PO} {Q : Exit → Act → World → Prop} {gf : G} {df : List Deferred} (hL0 : L w0) (hQ : ∀ tm w, Good P n S0 w0 gf tm w → Q .normal ⟨tm, df⟩ w)
    (hc : chkList P okf ops ops.toList ps = true) (hd : chkDraw ops ps = true) :
    ∀ (fuel : Nat) (listed : Array Bool) (done : List PO) (g : G) (tm : Array Value) (w : World), listed.size = ops.size → (remFrom listed 0 ps).length ≤ fuel →
      (∀ q ∈ done, ∃ j, ps[j]? = some q ∧ listed.getD j false = true) → (∀ j, listed.getD j false = true → ∀ i ∈ preds ops j, listed.getD i false = true) →
      AliasIn done g → Good P n S0 w0 g tm w → Seq P L (remFrom listed 0 ps) g gf → wpAnyIn (WF rd) nn P .any ops Q fuel listed ⟨tm, df⟩ w := by
  obtain ⟨hlen, hget⟩ := chkList_get hc
  have hlen' : ps.length = ops.size := by rw [← hlen]; simp
  have hpr : ∀ i, i < ops.size → ∀ j ∈ preds ops i, j < i := by
    intro i hi j hj
    unfold chkDraw at hd
    rw [List.all_eq_true] at hd
    have := hd i (List.mem_range.2 hi)
    simp only [Bool.and_eq_true, List.all_eq_true, decide_eq_true_eq] at this
    exact this.1 j hj
  have hpair : ∀ i j p q, i < ops.size → j < ops.size → i ≠ j → ps[i]? = some p → ps[j]? = some q → (i < j ∨ behind ops i j = true ∨ apartX q p = true) ∧ (safePair q p = true ∨ behind ops j i = true) := by
    intro i j p q hi hj hne hp hq
    unfold chkDraw at hd
    rw [List.all_eq_true] at hd
    have h1 := hd i (List.mem_range.2 hi)
    simp only [Bool.and_eq_true] at h1
    have h2 := h1.2
    rw [List.all_eq_true] at h2
    have h3 := h2 j (List.mem_range.2 hj)
    simp only [hp, hq, Bool.or_eq_true, decide_eq_true_eq, Bool.and_eq_true, List.contains_eq_mem] at h3
    rcases h3 with h3 | ⟨h3, h4⟩
    · exact absurd h3 hne
    · exact ⟨by rcases h3 with ((h3 | h3) | h3) | h3
                · exact .inl h3
                · exact .inr (.inl (by unfold behind; rw [Bool.or_eq_true]; exact .inl (by simpa using h3)))
                · exact .inr (.inr h3)
                · exact .inr (.inl h3), h4⟩
  have hgd : ∀ (listed : Array Bool), listed.size = ops.size → ∀ i, i < ops.size → listed.getD i true = listed.getD i false := by
    intro listed hs i hi
    simp [Array.getD_eq_getD_getElem?, Array.getElem?_eq_getElem (show i < listed.size by omega)]
  -- nothing is ready: nothing is left
  have hnone : ∀ (listed : Array Bool), listed.size = ops.size → Region.ready .any ops listed = [] → ∀ i, i < ops.size → listed.getD i true = true := by
    intro listed hs hr i
    induction i using Nat.strongRecOn with
    | _ i ih =>
      intro hi
      cases hq : listed.getD i true with
      | true => rfl
      | false =>
        have : i ∈ Region.ready .any ops listed := mem_ready2.2 ⟨hi, hq, fun j hj => by
          have hji := hpr i hi j hj
          have := ih j hji (by omega)
          rw [hgd listed hs j (by omega)] at this
          exact this⟩
        rw [hr] at this; simp at this
  intro fuel
  induction fuel with
  | zero =>
    intro listed done g tm w hs hf hdone hdc ha hg hq
    have hrem : remFrom listed 0 ps = [] := List.length_eq_zero_iff.1 (Nat.le_zero.1 hf)
    rw [hrem] at hq
    simp only [Seq] at hq
    subst hq
    refine ⟨?_, hQ tm w hg⟩
    apply List.eq_nil_iff_forall_not_mem.2
    intro i hi
    obtain ⟨h1, h2, h3⟩ := mem_ready2.1 hi
    obtain ⟨pre, post, e, _⟩ := remFrom_split (k := 0) (i := i) (p := ps[i]) (List.getElem?_eq_getElem (by omega)) (by simpa using h2)
    rw [hrem] at e
    simp at e
  | succ fuel ih =>
    intro listed done g tm w hs hf hdone hdc ha hg hq
    refine ⟨fun hr => ?_, fun i hi => ?_⟩
    · have hrem : remFrom listed 0 ps = [] := remFrom_nil (fun i hi => by simpa using hnone listed hs hr i (by omega))
      rw [hrem] at hq
      simp only [Seq] at hq
      subst hq
      exact hQ tm w hg
    · obtain ⟨h1, h2, h3⟩ := mem_ready2.1 hi
      have hpi : ps[i]? = some ps[i] := List.getElem?_eq_getElem (by omega)
      have hoi : ops[i]? = some ops[i] := Array.getElem?_eq_getElem h1
      obtain ⟨pre, post, e1, e2, e3⟩ := remFrom_split (k := 0) (i := i) (p := ps[i]) hpi (by simpa using h2)
      rw [Nat.zero_add] at e2
      rw [e1] at hq
      have hap : ∀ q ∈ pre, apartX q ps[i] = true := by
        intro q hq
        obtain ⟨j, j1, j2, j3⟩ := e3 q hq
        rw [Nat.zero_add] at j3
        obtain ⟨k1, _⟩ := hpair i j ps[i] q h1 (by omega) (by omega) hpi j2
        rcases k1 with k1 | k1 | k1
        · omega
        · have := behind_of hdc h3 k1
          rw [← hgd listed hs j (by omega), j3] at this
          cases this
        · exact k1
      obtain ⟨g1, s1, s2⟩ := hq.front hap
      have hsafe : ∀ q ∈ done, safePair q ps[i] = true := by
        intro q hq
        obtain ⟨j, j1, j2⟩ := hdone q hq
        have hjl : j < ps.length := (List.getElem?_eq_some_iff.1 j1).1
        have hij : i ≠ j := fun e => by
          subst e
          rw [← hgd listed hs i h1, h2] at j2; cases j2
        obtain ⟨_, k2⟩ := hpair i j ps[i] q h1 (by omega) hij hpi j1
        rcases k2 with k2 | k2
        · exact k2
        · have := behind_of hdc (hdc j j2) k2
          rw [← hgd listed hs i h1, h2] at this; cases this
      obtain ⟨S, O, gv, hI⟩ := hg
      obtain ⟨k1, k2⟩ := safe_kills ha hsafe
      have hchk := hget i ops[i] ps[i] (by simp) hpi
      have hset : ∀ j, (listed.setIfInBounds i true).getD j false = true ↔ (j = i ∨ listed.getD j false = true) := by
        intro j
        by_cases e : j = i
        · subst e; simp [Array.getD_eq_getD_getElem?, show j < listed.size by omega]
        · simp only [Array.getD_eq_getD_getElem?, Array.getElem?_setIfInBounds_ne (show i ≠ j from fun z => e z.symm), e, false_or]
      have := step_sound (rd := rd) (nn := nn) hL (n := { n with gv := gv }) hn (Q := Q) (Kk := wpAnyIn (WF rd) nn P .any ops Q fuel (listed.setIfInBounds i true)) (a := ⟨tm, df⟩) hchk hI hL0 s1 k1 k2 (fun tm' w' hg' =>
        ih (listed.setIfInBounds i true) (ps[i] :: done) g1 tm' w' (by simp [hs]) (by rw [e2]; rw [e1] at hf; simp at hf ⊢; omega)
          (fun q hq => by
            rcases List.mem_cons.1 hq with rfl | hq
            · exact ⟨i, hpi, (hset i).2 (.inl rfl)⟩
            · obtain ⟨j, j1, j2⟩ := hdone q hq
              exact ⟨j, j1, (hset j).2 (.inr j2)⟩)
          (fun j hj i' hi' => by
            rcases (hset j).1 hj with rfl | hj
            · exact (hset i').2 (.inr (h3 i' hi'))
            · exact (hset i').2 (.inr (hdc j hj i' hi')))
          (ha.step s1) hg' (by rw [e2]; exact s2))
      unfold wpOpIn
      rw [hoi]
      exact this
end

end Go.Pi
