/-
  THE READING, RUN: an interpreter for closed data, and the contract that a run gives. Own work.
-/
import Derived.Test.YthfgjhnckegneaaGreatDoorPiX
namespace Go.Pi
open Go Go.RowKit

/-- the readings of functions, and contracts that are known from elsewhere -/
structure Tab where
  fn : Nat → Option (PC × List RV × Nat)
  ext : Nat → List D → Option D

inductive Job where
  | code (pc : PC) (E : Env)
  | ops (ps : List PO) (E : Env)
  | call (f : FuncId) (ds : List D)

inductive Out where
  | ex (e : Ex) (E : Env)
  | env (E : Env)
  | val (d : D)

def runJ (T : Tab) : Nat → Job → Option Out
  | 0, _ => none
  | n + 1, .call f ds => match T.ext f ds with
    | some r => if (aliasOf r).isNone = true then some (.val r) else none
    | none => match T.fn f with
      | some (pc, rs, np) => if ds.length = np ∧ ds.all (fun d => (aliasOf d).isNone) = true then
          (match runJ T n (.code pc (initE 0 ds)) with
          | some (.ex (.exit _) _) => none
          | some (.ex _ E) => (match resD E rs with
            | some r => if (aliasOf r).isNone = true then some (.val r) else none
            | none => none)
          | _ => none) else none
      | none => none
  | _ + 1, .ops [] E => some (.env E)
  | n + 1, .ops (p :: ps) E => match p.guard with
    | some (s, want) => (match lk E s with
      | .bool b => if b = want then runJ T n (.ops (⟨p.dst, p.k, none⟩ :: ps) E) else runJ T n (.ops ps (st1 E p.d (.tup [])))
      | .tup [] => runJ T n (.ops ps (st1 E p.d (.tup [])))
      | _ => none)
    | none => (match p.k with
      | .call f args => (match optAll (args.map (lend (lk E))) with
        | some ds => (match runJ T n (.call f ds) with
          | some (.val r) => runJ T n (.ops ps (sets E ((K.call f args).after p.d (lk E) r)))
          | _ => none)
        | none => none)
      | .callV t args => (match lk E t with
        | .clo f caps => (match (optAll (args.map (lend (lk E)))).map (· ++ caps) with
          | some ds => (match runJ T n (.call f ds) with
            | some (.val r) => runJ T n (.ops ps (sets E ((K.callV t args).after p.d (lk E) r)))
            | _ => none)
          | none => none)
        | _ => none)
      | k => (match k.run p.d (lk E) with
        | some l => runJ T n (.ops ps (sets E l))
        | none => none))
  | n + 1, .code pc E => match pc with
    | .skip => some (.ex .nrm E)
    | .bad => none
    | .seq a b => (match runJ T n (.code a E) with
      | some (.ex .nrm E1) => runJ T n (.code b E1)
      | r => r)
    | .reg ops live => (match runJ T n (.ops ops E) with
      | some (.env E1) => some (.ex .nrm (keepE live E1))
      | _ => none)
    | .cnd c t e => (match c.ev (lk E) with
      | .bool b => if b = true then runJ T n (.code t E) else runJ T n (.code e E)
      | _ => none)
    | .blk id b => (match runJ T n (.code b E) with
      | some (.ex (.exit id') E1) => if id' = id then some (.ex .nrm E1) else some (.ex (.exit id') E1)
      | r => r)
    | .loop b => (match runJ T n (.code b E) with
      | some (.ex .nrm E1) => runJ T n (.code (.loop b) E1)
      | r => r)
    | .exit id => some (.ex (.exit id) E)
    | .ret => some (.ex .ret E)
    | .rfn .. => none
    | .cus .. => none

structure Tab.Ok (P : Program) (L : World → Prop) (T : Tab) : Prop where
  fn : ∀ f pc rs np, T.fn f = some (pc, rs, np) → ∃ fn, P.funcs[f]? = some fn ∧ chkFn P fn np pc rs = true
  ext : ∀ f ds r, T.ext f ds = some r → Con P L f ds r

variable {P : Program} {L : World → Prop} {T : Tab}

theorem runJ_sound (hL : ∀ w w', L w → Below w.heap.size w w' → L w') (hT : T.Ok P L) : ∀ (n : Nat) (j : Job) (o : Out), runJ T n j = some o → match j, o with
    | .call f ds, .val r => Con P L f ds r
    | .ops ps E, .env E' => ∀ N : EP, N E' → wpE (Con P L) ps N E
    | .code pc E, .ex ex E' => ∀ Q : Ex → EP, Q ex E' → wpC (Con P L) pc Q E
    | _, _ => False := by
  intro n
  induction n using Nat.strongRecOn with
  | _ n ih =>
  match n, ih with
  | 0, _ => intro j o h; simp [runJ] at h
  | n + 1, ih =>
    have IHc : ∀ m, m ≤ n → ∀ f ds o, runJ T m (.call f ds) = some o → ∃ r, o = .val r ∧ Con P L f ds r := by
      intro m hm f ds o h
      have := ih m (by omega) _ _ h
      cases o <;> simp only at this
      exact ⟨_, rfl, this⟩
    have IHo : ∀ m, m ≤ n → ∀ ps E o, runJ T m (.ops ps E) = some o → ∃ E', o = .env E' ∧ ∀ N : EP, N E' → wpE (Con P L) ps N E := by
      intro m hm ps E o h
      have := ih m (by omega) _ _ h
      cases o <;> simp only at this
      exact ⟨_, rfl, this⟩
    have IHp : ∀ m, m ≤ n → ∀ pc E o, runJ T m (.code pc E) = some o → ∃ ex E', o = .ex ex E' ∧ ∀ Q : Ex → EP, Q ex E' → wpC (Con P L) pc Q E := by
      intro m hm pc E o h
      have := ih m (by omega) _ _ h
      cases o <;> simp only at this
      exact ⟨_, _, rfl, this⟩
    intro j o h
    cases j with
    | call f ds =>
      simp only [runJ] at h
      split at h
      · rename_i r hr
        split at h <;> cases h
        exact hT.ext f ds r hr
      · split at h <;> try (cases h; done)
        rename_i pc rs np hfn
        split at h <;> try (cases h; done)
        rename_i hc
        split at h <;> try (cases h; done)
        rename_i q ex E' hne hrun
        split at h <;> try (cases h; done)
        rename_i r hres
        split at h <;> cases h
        rename_i hal
        obtain ⟨fn, h1, h2⟩ := hT.fn _ _ _ _ hfn
        obtain ⟨ex2, E2, e1, e2⟩ := IHp n (Nat.le_refl _) _ _ _ hrun
        cases e1
        refine con_chk hL h1 h2 (by simpa using hal) hc.1 hc.2 (e2 _ ⟨?_, hres⟩)
        cases ex with
        | exit id => exact (hne id rfl).elim
        | nrm => trivial
        | ret => trivial
    | ops ps E =>
      cases ps with
      | nil => simp only [runJ, Option.some.injEq] at h; subst h; exact fun N hN => hN
      | cons p ps =>
        simp only [runJ] at h
        split at h
        · rename_i s want hg
          split at h <;> try (cases h; done)
          rename_i b hb
          split at h
          · rename_i e
            obtain ⟨E', rfl, h2⟩ := IHo n (Nat.le_refl _) _ _ _ h
            intro N hN
            have := h2 N hN
            unfold wpE at this ⊢
            rw [hg]
            simp only at this ⊢
            rw [hb]
            simp only
            refine ⟨fun _ => this, fun e2 => ?_⟩
            subst e; cases b <;> simp at e2
          · rename_i e
            obtain ⟨E', rfl, h2⟩ := IHo n (Nat.le_refl _) _ _ _ h
            intro N hN
            unfold wpE
            rw [hg]
            simp only
            rw [hb]
            simp only
            exact ⟨fun e2 => absurd e2 e, fun _ => h2 N hN⟩
          · rename_i hb
            obtain ⟨E', rfl, h2⟩ := IHo n (Nat.le_refl _) _ _ _ h
            intro N hN
            unfold wpE
            rw [hg]
            simp only
            rw [hb]
            exact h2 N hN
        · rename_i hg
          have key : ∀ E1, runJ T n (.ops ps E1) = some o → ∃ E', o = .env E' ∧ ∀ N : EP, N E' → wpE (Con P L) ps N E1 := fun E1 h1 => IHo n (Nat.le_refl _) _ _ _ h1
          split at h
          · rename_i f args hk
            split at h <;> try (cases h; done)
            rename_i ds hds
            split at h <;> try (cases h; done)
            rename_i r hr
            obtain ⟨r', e1, hC⟩ := IHc n (Nat.le_refl _) _ _ _ hr
            cases e1
            obtain ⟨E', rfl, h2⟩ := key _ h
            intro N hN
            unfold wpE
            rw [hg]
            simp only
            unfold doE
            rw [hk]
            simp only [CallP, hds]
            exact ⟨r, hC, h2 N hN⟩
          · rename_i t args hk
            split at h <;> try (cases h; done)
            rename_i f caps ht
            split at h <;> try (cases h; done)
            rename_i ds hds
            split at h <;> try (cases h; done)
            rename_i r hr
            obtain ⟨r', e1, hC⟩ := IHc n (Nat.le_refl _) _ _ _ hr
            cases e1
            obtain ⟨E', rfl, h2⟩ := key _ h
            intro N hN
            unfold wpE
            rw [hg]
            simp only
            unfold doE
            rw [hk]
            simp only [ht, hds, CallP]
            exact ⟨r, hC, h2 N hN⟩
          · rename_i hn1 hn2
            split at h <;> try (cases h; done)
            rename_i l hl
            obtain ⟨E', rfl, h2⟩ := key _ h
            intro N hN
            unfold wpE
            rw [hg]
            simp only
            unfold doE
            split
            · rename_i f args hk; exact (hn1 _ _ hk).elim
            · rename_i t args hk; exact (hn2 _ _ hk).elim
            · rw [hl]; exact h2 N hN
    | code pc E =>
      cases pc with
      | skip => simp only [runJ, Option.some.injEq] at h; subst h; exact fun Q hQ => hQ
      | bad => simp [runJ] at h
      | seq a b =>
        simp only [runJ] at h
        split at h
        · rename_i E1 hr
          obtain ⟨ex, E', e1, h1⟩ := IHp n (Nat.le_refl _) _ _ _ hr
          cases e1
          obtain ⟨ex2, E2, rfl, h2⟩ := IHp n (Nat.le_refl _) _ _ _ h
          intro Q hQ
          exact h1 _ (h2 Q hQ)
        · rename_i hr
          obtain ⟨ex, E', rfl, h1⟩ := IHp n (Nat.le_refl _) _ _ _ h
          intro Q hQ
          refine h1 _ ?_
          cases ex with
          | nrm => exact (hr _ h).elim
          | exit id => exact hQ
          | ret => exact hQ
      | reg ops live =>
        simp only [runJ] at h
        split at h <;> cases h
        rename_i E1 hr
        obtain ⟨E', e1, h1⟩ := IHo n (Nat.le_refl _) _ _ _ hr
        cases e1
        intro Q hQ
        exact h1 _ hQ
      | cnd c t e =>
        simp only [runJ] at h
        split at h <;> try (cases h; done)
        rename_i b hb
        cases b
        · simp only [Bool.false_eq_true, if_false] at h
          obtain ⟨ex, E', rfl, h1⟩ := IHp n (Nat.le_refl _) _ _ _ h
          intro Q hQ
          simp only [wpC, hb]
          exact ⟨fun e => (by cases e), fun _ => h1 Q hQ⟩
        · simp only [if_true] at h
          obtain ⟨ex, E', rfl, h1⟩ := IHp n (Nat.le_refl _) _ _ _ h
          intro Q hQ
          simp only [wpC, hb]
          exact ⟨fun _ => h1 Q hQ, fun e => (by cases e)⟩
      | blk id b =>
        simp only [runJ] at h
        split at h
        · rename_i id' E1 hr
          obtain ⟨ex, E', e1, h1⟩ := IHp n (Nat.le_refl _) _ _ _ hr
          cases e1
          split at h <;> cases h
          · rename_i e
            intro Q hQ
            exact h1 _ (by simp only [e, if_true]; exact hQ)
          · rename_i e
            intro Q hQ
            exact h1 _ (by simp only [e, if_false]; exact hQ)
        · rename_i hr
          obtain ⟨ex, E', rfl, h1⟩ := IHp n (Nat.le_refl _) _ _ _ h
          intro Q hQ
          refine h1 _ ?_
          cases ex with
          | nrm => exact hQ
          | exit id' => exact (hr _ _ h).elim
          | ret => exact hQ
      | loop b =>
        have hex : ∃ ex E', o = .ex ex E' := by
          have hno : ∀ (m : Nat) (E : Env), runJ T m (.code (.loop b) E) = some o → m ≤ n + 1 → ∃ ex E', o = .ex ex E' := by
            intro m
            induction m with
            | zero => intro E h; simp [runJ] at h
            | succ m ihm =>
              intro E h hle
              simp only [runJ] at h
              split at h
              · exact ihm _ h (by omega)
              · obtain ⟨ex, E', e, _⟩ := IHp m (by omega) _ _ _ h
                exact ⟨ex, E', e⟩
          exact hno (n + 1) E h (Nat.le_refl _)
        obtain ⟨ex, E', rfl⟩ := hex
        simp only
        intro Q hQ
        let R : Env → Nat → Prop := fun E m => m ≤ n + 1 ∧ runJ T m (.code (.loop b) E) = some (.ex ex E')
        let mu : Env → Nat := fun E => Classical.epsilon fun m => R E m ∧ ∀ m', R E m' → m ≤ m'
        have hmu : ∀ E, (∃ m, R E m) → R E (mu E) ∧ ∀ m', R E m' → mu E ≤ m' := fun E h => Classical.epsilon_spec (p := fun m => R E m ∧ ∀ m', R E m' → m ≤ m') (exists_least h)
        refine ⟨fun E => ∃ m, R E m, mu, ⟨n + 1, Nat.le_refl _, h⟩, fun E0 h0 => ?_⟩
        obtain ⟨⟨k1, k2⟩, _⟩ := hmu E0 h0
        generalize hk : mu E0 = k at k1 k2
        cases k with
        | zero => simp [runJ] at k2
        | succ k =>
          simp only [runJ] at k2
          split at k2
          · rename_i E1 hr
            obtain ⟨ex1, E1', e1, h1⟩ := IHp k (by omega) _ _ _ hr
            cases e1
            refine h1 _ ?_
            have hR : R E1 k := ⟨by omega, k2⟩
            refine ⟨⟨k, hR⟩, ?_⟩
            have := (hmu E1 ⟨k, hR⟩).2 k hR
            omega
          · rename_i hr
            obtain ⟨ex1, E1', e1, h1⟩ := IHp k (by omega) _ _ _ k2
            cases e1
            refine h1 _ ?_
            cases ex with
            | nrm => exact (hr _ k2).elim
            | exit id => exact hQ
            | ret => exact hQ
      | exit id => simp only [runJ, Option.some.injEq] at h; subst h; exact fun Q hQ => hQ
      | ret => simp only [runJ, Option.some.injEq] at h; subst h; exact fun Q hQ => hQ
      | rfn => simp [runJ] at h
      | cus ws T => simp [runJ] at h

/-- a contract, by running -/
theorem con_run (hL : ∀ w w', L w → Below w.heap.size w w' → L w') (hT : T.Ok P L) (n : Nat) {f : FuncId} {ds : List D} {r : D} (h : runJ T n (.call f ds) = some (.val r)) : Con P L f ds r :=
  runJ_sound hL hT n _ _ h

end Go.Pi
