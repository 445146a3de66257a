/-
  CODE AS A WHOLE; A FUNCTION's CONTRACT OUT OF ITS PURE READING. Own work.
-/
import Derived.Test.YthfgjhnckegneaaGreatDoorPiBk
namespace Go.Pi
open Go Go.RowKit

variable {P : Program} {L : World → Prop} {n : Nz} {S0 S : Nat → Nat → Prop} {w0 w : World} {O : Nat → Option Nat} {g : G} {tm : Array Value} {o : Oper} {dst : Nat}

abbrev Env := List (Nat × D)

def lk : Env → Nat → D
  | [], _ => .un
  | (k, d) :: r, t => if t = k then d else lk r t

def st1 : Env → Nat → D → Env
  | [], t, d => [(t, d)]
  | (k, e) :: r, t, d => if t = k then (k, d) :: r else (k, e) :: st1 r t d

def sets : Env → List (Nat × D) → Env
  | E, [] => E
  | E, (t, d) :: r => sets (st1 E t d) r

theorem lk_st1 (E : Env) (t : Nat) (d : D) : lk (st1 E t d) = upd (lk E) t d := by
  funext x
  induction E with
  | nil => simp [st1, lk, upd]
  | cons p E ih =>
    obtain ⟨k, e⟩ := p
    simp only [st1]
    by_cases h : t = k
    · subst h
      simp only [if_true, lk, upd]
      by_cases h2 : x = t <;> simp [h2]
    · simp only [h, if_false, lk, upd] at ih ⊢
      rw [ih]
      by_cases h2 : x = k
      · subst h2
        have : ¬ x = t := fun e => h e.symm
        simp [this]
      · simp [h2]

theorem lk_sets (l : List (Nat × D)) : ∀ E : Env, lk (sets E l) = upds (lk E) l := by
  induction l with
  | nil => intro E; rfl
  | cons p l ih =>
    intro E
    obtain ⟨t, d⟩ := p
    simp only [sets, upds]
    rw [ih, lk_st1]

def D.clean : D → D
  | .al _ => .un
  | .rf .. => .un
  | d => d

def keepE : List Nat → Env → Env
  | [], _ => []
  | t :: r, E => (t, (lk E t).clean) :: keepE r E

theorem lk_keepE (live : List Nat) (E : Env) (t : Nat) : lk (keepE live E) t = if t ∈ live then (lk E t).clean else .un := by
  induction live with
  | nil => rfl
  | cons s r ih =>
    simp only [keepE, lk, List.mem_cons]
    by_cases h : t = s
    · subst h; simp
    · simp [h, ih]

/-- a call, with whatever contract is at hand -/
def CallP (C : FuncId → List D → D → Prop) (f : FuncId) (ods : Option (List D)) (M : D → Prop) : Prop :=
  match ods with
  | some ds => ∃ r, C f ds r ∧ M r
  | none => False

def doE (C : FuncId → List D → D → Prop) (p : PO) (M : Env → Prop) (E : Env) : Prop :=
  match p.k with
  | .call f args => CallP C f (optAll (args.map (lend (lk E)))) fun r => M (sets E ((K.call f args).after p.d (lk E) r))
  | .callV t args => match lk E t with
    | .clo f caps => CallP C f ((optAll (args.map (lend (lk E)))).map (· ++ caps)) fun r => M (sets E ((K.callV t args).after p.d (lk E) r))
    | _ => False
  | k => match k.run p.d (lk E) with
    | some l => M (sets E l)
    | none => False

def wpE (C : FuncId → List D → D → Prop) : List PO → (Env → Prop) → Env → Prop
  | [], K, E => K E
  | p :: ps, K, E => match p.guard with
    | none => doE C p (wpE C ps K) E
    | some (s, want) => match lk E s with
      | .bool b => (b = want → doE C p (wpE C ps K) E) ∧ ((!b) = want → wpE C ps K (st1 E p.d (.tup [])))
      | .tup [] => wpE C ps K (st1 E p.d (.tup []))
      | _ => False

theorem doE_do {p : PO} {M : Env → Prop} {E : Env} (h : doE (Con P L) p M E) : ∃ E', Do P L p (lk E) (lk E') ∧ M E' := by
  unfold doE at h
  split at h
  · rename_i f args hk
    unfold CallP at h
    split at h <;> try (exact h.elim)
    rename_i ds hds
    obtain ⟨r, hC, hK⟩ := h
    exact ⟨_, .inr ⟨f, ds, r, by rw [hk]; simp [K.callee, hds], hC, by rw [hk, lk_sets]⟩, hK⟩
  · rename_i t args hk
    split at h <;> try (exact h.elim)
    rename_i f caps ht
    unfold CallP at h
    split at h <;> try (exact h.elim)
    rename_i ds hds
    obtain ⟨r, hC, hK⟩ := h
    rw [Option.map_eq_some_iff] at hds
    obtain ⟨ds', h1, rfl⟩ := hds
    exact ⟨_, .inr ⟨f, ds' ++ caps, r, by rw [hk]; simp [K.callee, ht, h1], hC, by rw [hk, lk_sets]⟩, hK⟩
  · split at h <;> try (exact h.elim)
    rename_i l hl
    exact ⟨_, .inl ⟨l, hl, by rw [lk_sets]⟩, h⟩

theorem wpE_seq : ∀ {ps : List PO} {M : Env → Prop} {E : Env}, wpE (Con P L) ps M E → ∃ E', Seq P L ps (lk E) (lk E') ∧ M E'
  | [], M, E, h => ⟨E, rfl, h⟩
  | p :: ps, M, E, h => by
    unfold wpE at h
    split at h
    · rename_i hg
      obtain ⟨E1, h1, h2⟩ := doE_do h
      obtain ⟨E2, h3, h4⟩ := wpE_seq h2
      exact ⟨E2, ⟨lk E1, by unfold StepTo; rw [hg]; exact h1, h3⟩, h4⟩
    · rename_i s want hg
      split at h <;> try (exact h.elim)
      · rename_i b hb
        by_cases hbw : b = want
        · obtain ⟨E1, h1, h2⟩ := doE_do (h.1 hbw)
          obtain ⟨E2, h3, h4⟩ := wpE_seq h2
          exact ⟨E2, ⟨lk E1, by unfold StepTo; rw [hg]; exact .inl ⟨b, hb, by rw [if_pos hbw]; exact h1⟩, h3⟩, h4⟩
        · have h2 := h.2 (by cases b <;> cases want <;> simp_all)
          obtain ⟨E2, h3, h4⟩ := wpE_seq h2
          exact ⟨E2, ⟨lk (st1 E p.d (.tup [])), by unfold StepTo; rw [hg]; exact .inl ⟨b, hb, by rw [if_neg hbw, lk_st1]⟩, h3⟩, h4⟩
      · rename_i hb
        obtain ⟨E2, h3, h4⟩ := wpE_seq h
        exact ⟨E2, ⟨lk (st1 E p.d (.tup [])), by unfold StepTo; rw [hg]; exact .inr ⟨hb, by rw [lk_st1]⟩, h3⟩, h4⟩

/-- the meaning of a piece of code that is shown by hand: what must hold so that M holds behind -/
structure PT where
  f : (Env → Prop) → Env → Prop
  mono : ∀ {M M' : Env → Prop} {E : Env}, (∀ E, M E → M' E) → f M E → f M' E

instance : Inhabited PT := ⟨⟨fun _ _ => False, fun _ h => h⟩⟩

inductive PC where
  | skip
  | bad
  | seq (a b : PC)
  | reg (ops : List PO) (live : List Nat)
  | cnd (c : PX) (t e : PC)
  | blk (id : Nat) (b : PC)
  | loop (b : PC)
  | exit (id : Nat)
  | ret
  | rfn (f : Nat) (ag : Bool) (sz gs k1 k2 : Nat) (rs : List Nat) (asg body : PC) (out : List Nat)
  | cus (ws : List Nat) (T : PT)
  deriving Inhabited

/-- the iterators of slices.Backward that a code ranges over -/
def PC.backs : PC → List (Nat × Bool × Nat)
  | .seq a b => a.backs ++ b.backs
  | .cnd _ a b => a.backs ++ b.backs
  | .blk _ b => b.backs
  | .loop b => b.backs
  | .rfn f ag sz _ _ _ _ asg body _ => (f, ag, sz) :: (asg.backs ++ body.backs)
  | _ => []

/-- the slice behind the closure of slices.Backward -/
def backOf (f : Nat) (d : D) (K : Nat → List D → Prop) : Prop :=
  match d with
  | .clo f' [.pt (.sl m cs :: _)] => f' = f ∧ K m cs
  | _ => False

inductive Ex where
  | nrm
  | exit (id : Nat)
  | ret

/-- the pure meaning: what must hold so that Q holds behind -/
def wpC (C : FuncId → List D → D → Prop) : PC → (Ex → Env → Prop) → Env → Prop
  | .skip, Q, E => Q .nrm E
  | .bad, _, _ => False
  | .seq a b, Q, E => wpC C a (fun ex E' => match ex with
    | .nrm => wpC C b Q E'
    | .exit id => Q (.exit id) E'
    | .ret => Q .ret E') E
  | .reg ops live, Q, E => wpE C ops (fun E' => Q .nrm (keepE live E')) E
  | .cnd c t e, Q, E => match c.ev (lk E) with
    | .bool b => (b = true → wpC C t Q E) ∧ (b = false → wpC C e Q E)
    | _ => False
  | .blk id b, Q, E => wpC C b (fun ex E' => match ex with
    | .nrm => Q .nrm E'
    | .exit id' => if id' = id then Q .nrm E' else Q (.exit id') E'
    | .ret => Q .ret E') E
  | .loop b, Q, E => ∃ (I : Env → Prop) (m : Env → Nat), I E ∧ ∀ E, I E → wpC C b (fun ex E' => match ex with
    | .nrm => I E' ∧ m E' < m E
    | .exit id => Q (.exit id) E'
    | .ret => Q .ret E') E
  | .exit id, Q, E => Q (.exit id) E
  | .ret, Q, E => Q .ret E
  | .rfn f ag sz gs k1 k2 _ asg body out, Q, E => backOf f (lk E gs) fun m cs => m * sz = cs.length ∧
      ∃ I : Nat → Env → Prop, I 0 (keepE out E) ∧ (∀ k E1, I k E1 → lk E1 gs = lk E gs) ∧ (∀ E1, I m E1 → Q .nrm E1) ∧
        ∀ k E1, k < m → I k E1 → ∃ d, ofCells ag sz (cs.drop ((m - 1 - k) * sz)) = some d ∧ d.flat0 = true ∧
          wpC C asg (fun ex E2 => match ex with
            | .nrm => wpC C body (fun ex E3 => match ex with
              | .nrm => I (k + 1) (keepE out E3)
              | _ => False) E2
            | _ => False) (sets E1 [(k1, .int .i64 ((m - 1 - k : Nat) : Int)), (k2, d)])
  | .cus _ T, Q, E => T.f (Q .nrm) E

/-- the pieces that are shown by hand -/
def cusL : Code → PC → List (Code × List Nat × PT)
  | c, .cus ws T => [(c, ws, T)]
  | .seq a b, .seq x y => cusL a x ++ cusL b y
  | .cond _ t e, .cnd _ a b => cusL t a ++ cusL e b
  | .block _ b, .blk _ x => cusL b x
  | .loop b, .loop x => cusL b x
  | .rangeFunc _ _ a c, .rfn _ _ _ _ _ _ _ asg body _ => cusL a asg ++ cusL c body
  | _, _ => []

def PC.noCus : PC → Bool
  | .cus _ _ => false
  | .seq a b => a.noCus && b.noCus
  | .cnd _ a b => a.noCus && b.noCus
  | .blk _ b => b.noCus
  | .loop b => b.noCus
  | .rfn _ _ _ _ _ _ _ asg body _ => asg.noCus && body.noCus
  | _ => true

theorem cusL_nil : ∀ (c : Code) (pc : PC), pc.noCus = true → cusL c pc = [] := by
  intro c
  induction c with
  | seq a b iha ihb => intro pc h; cases pc <;> simp_all [PC.noCus, cusL]
  | cond x t e iht ihe => intro pc h; cases pc <;> simp_all [PC.noCus, cusL]
  | block id b ih => intro pc h; cases pc <;> simp_all [PC.noCus, cusL]
  | loop b ih => intro pc h; cases pc <;> simp_all [PC.noCus, cusL]
  | rangeFunc g ps a b iha ihb => intro pc h; cases pc <;> simp_all [PC.noCus, cusL]
  | _ => intro pc h; cases pc <;> simp_all [PC.noCus, cusL]

def chkC (P : Program) (ok : Nat → Bool) : Code → PC → Bool
  | .skip, .skip => true
  | _, .bad => true
  | _, .cus ws _ => ws.all ok
  | .seq a b, .seq x y => chkC P ok a x && chkC P ok b y
  | .region _ ops draw, .reg ps _ => chkList P ok ops ops.toList ps && (if draw then chkDraw ops ps && P.follows .mixedOrders else safeOrd [] ps)
  | .cond c t e, .cnd x a b => chkX c x && chkC P ok t a && chkC P ok e b
  | .block id b, .blk id' x => id == id' && chkC P ok b x
  | .loop b, .loop x => chkC P ok b x
  | .exit id, .exit id' => id == id'
  | .ret, .ret => true
  | .rangeFunc (.tmp g) ps a c, .rfn f _ _ gs k1 k2 rs asg body out => g == gs && ps == #[k1, k2] && hasBody P f && rs.contains k1 && rs.contains k2 && k1 != k2 && rs.all ok && !rs.contains gs &&
      out.all (fun t => !rs.contains t) && asg.backs.isEmpty && body.backs.isEmpty && chkC P (fun d => rs.contains d && ok d) a asg && chkC P (fun d => rs.contains d && ok d) c body
  | _, _ => false

def Ex.to : Ex → Exit
  | .nrm => .normal
  | .exit id => .exit id
  | .ret => .ret

theorem exists_least {p : Nat → Prop} (h : ∃ k, p k) : ∃ k, p k ∧ ∀ m, p m → k ≤ m := by
  obtain ⟨k, hk⟩ := h
  induction k using Nat.strongRecOn with
  | _ k ih =>
    by_cases hlt : ∃ m, m < k ∧ p m
    · obtain ⟨m, hm, hp⟩ := hlt
      exact ih m hm hp
    · exact ⟨k, hk, fun m hm => Nat.le_of_not_lt fun h => hlt ⟨m, h, hm⟩⟩

/-- the region's end: what is no longer needed is forgotten -/
theorem Good.keep {live : List Nat} {E : Env} (h : Good P n S0 w0 (lk E) tm w) : Good P n S0 w0 (lk (keepE live E)) tm w := by
  obtain ⟨S, O, gv, h⟩ := h
  have h1 := h.dropP (fun t => !live.contains t || (aliasOf (lk E t)).isSome) (fun t s h1 _ => by simp [h1])
  have e : lk (keepE live E) = fun t => if (!live.contains t || (aliasOf (lk E t)).isSome) = true then .un else lk E t := by
    funext t
    rw [lk_keepE]
    by_cases h1 : t ∈ live
    · cases hq : lk E t <;> simp [D.clean, aliasOf, h1]
    · simp [h1]
  rw [e]
  exact ⟨S, _, _, h1⟩

theorem keepE_noAlias (live : List Nat) (E : Env) : ∀ t, aliasOf (lk (keepE live E) t) = none := by
  intro t
  rw [lk_keepE]
  split
  · cases lk E t <;> rfl
  · rfl

theorem SR.blockOf {f : Nat → Value} {t : Nat} {d : D} {b : Nat} (h : SR P S w O f t d) (hO : O t = some b) : ∃ arr e fr, w.heap[b]? = some (.cells arr e fr) := by
  cases d <;> simp only [SR, OwnR] at h
  all_goals first
    | (rw [h] at hO; cases hO; done)
    | (rw [h.1] at hO; cases hO; done)
    | skip
  · rcases h with ⟨h, _⟩ | ⟨b', cap, arr, h1, h2, h3, _⟩
    · rw [h] at hO; cases hO
    · rw [h1] at hO; cases hO; exact ⟨_, _, _, h3⟩
  · obtain ⟨b', arr, e, h1, h2, h3, _⟩ := h
    rw [h1] at hO; cases hO; exact ⟨_, _, _, h3⟩
  · obtain ⟨b', e, h1, _, h3, _⟩ := h
    rw [h1] at hO; cases hO; exact ⟨_, _, _, h3⟩

/-- a block of this call that is no cells is turned: the reading stands -/
theorem Good.putObj {D : Nat} {o o' : Obj} (hg : Good P n S0 w0 g tm w) (hD : w.heap[D]? = some o) (ho : o.isCells = false) (ho' : o'.isCells = false) (h0 : w0.heap.size ≤ D) :
    Good P { n with wk := w.putObj D o' } S0 w0 g tm (w.putObj D o') := by
  obtain ⟨S, O, gv, h⟩ := hg
  have hlt : D < w.heap.size := (Array.getElem?_eq_some_iff.1 hD).1
  have hcell : ∀ b j, S b j → (w.putObj D o').cell? ⟨b, j, none⟩ = w.cell? ⟨b, j, none⟩ := fun b j _ => by
    by_cases e : b = D
    · subst e
      have n1 : w.cell? ⟨b, j, none⟩ = none := by
        cases hq : w.cell? ⟨b, j, none⟩ with
        | none => rfl
        | some v => obtain ⟨x, hx, hc⟩ := cells_of_cell hq; simp only at hx; rw [hD] at hx; cases hx; rw [ho] at hc; cases hc
      have n2 : (w.putObj b o').cell? ⟨b, j, none⟩ = none := by
        cases hq : (w.putObj b o').cell? ⟨b, j, none⟩ with
        | none => rfl
        | some v => obtain ⟨x, hx, hc⟩ := cells_of_cell hq; simp only at hx; rw [World.putObj_heap_same hlt] at hx; cases hx; rw [ho'] at hc; cases hc
      rw [n1, n2]
    · exact cell_of_heap (World.putObj_heap_other e)
  refine ⟨S, O, gv, ⟨h.size, ?_, h.sub, h.sup, fun b j x => by rw [World.putObj_size]; exact h.ex b j x, h.inj, fun t b x => by rw [World.putObj_size]; exact h.base t b x, fun t => ?_, h.fix, fun _ _ z _ => z, h.nb, h.gh⟩⟩
  · exact h.below.trans ((Below.refl _ w).grown (grownBy_putObj' w D o') h.below.size (fun k e => by cases e; exact h0))
  · refine (h.slot t).grow (fun _ _ x => x) (fun _ _ _ x => x) hcell (fun b ht => World.putObj_heap_other (fun e => ?_))
    subst e
    obtain ⟨arr, ty, fr, hx⟩ := (h.slot t).blockOf ht
    rw [hD] at hx; cases hx; cases ho

/-- the same, of a block that is younger than what is to stand -/
theorem Good.putObjK {D : Nat} {o o' : Obj} (hg : Good P n S0 w0 g tm w) (hD : w.heap[D]? = some o) (ho : o.isCells = false) (ho' : o'.isCells = false) (h0 : w0.heap.size ≤ D) (hk : n.wk.heap.size ≤ D) :
    Good P n S0 w0 g tm (w.putObj D o') := by
  obtain ⟨S, O, gv, h⟩ := hg.putObj hD ho ho' h0
  obtain ⟨S1, O1, gv1, h1⟩ := hg
  refine ⟨S, O, gv, ⟨h.size, h.below, h.sub, h.sup, h.ex, h.inj, h.base, h.slot, h.fix, fun k q hq hqc => ?_, h.nb, h.gh⟩⟩
  refine (World.putObj_heap_other (fun e => ?_)).trans (h1.keep k q hq hqc)
  have hlt : k < n.wk.heap.size := (Array.getElem?_eq_some_iff.1 hq).1
  omega

/-- what is to stand may be chosen anew -/
theorem Good.rewk (hg : Good P n S0 w0 g tm w) : Good P { n with wk := w } S0 w0 g tm w := by
  obtain ⟨S, O, gv, h⟩ := hg
  exact ⟨S, O, gv, ⟨h.size, h.below, h.sub, h.sup, h.ex, h.inj, h.base, h.slot, h.fix, fun _ _ x _ => x, h.nb, h.gh⟩⟩

/-- a round's end: the round's slots are gone -/
theorem Good.retm {n' : Nz} {tm' : Array Value} (hg : Good P n' S0 w0 g tm' w) (hs : tm.size = n.n) (hfix : ∀ t, n.ok t = false → tm.getD t undef = n.tm0.getD t undef)
    (hk : ∀ (k : Nat) (o : Obj), n.wk.heap[k]? = some o → o.isCells = false → w.heap[k]? = some o) (hnb : n.n ≤ GB) (hna : ∀ t, aliasOf (g t) = none) (h0 : n'.tm0 = tm) (hun : ∀ t, n'.ok t = true → g t = .un) : Good P n S0 w0 g tm w := by
  obtain ⟨S, O, gv, h⟩ := hg
  refine ⟨S, O, gv, ⟨hs, h.below, h.sub, h.sup, h.ex, h.inj, h.base, fun t => ?_, hfix, hk, hnb, h.gh⟩⟩
  have hst := h.slot t
  cases hok : n'.ok t with
  | true => rw [hun t hok] at hst ⊢; exact hst
  | false =>
    have e : tmOf gv tm' t = tmOf gv tm t := by
      have := h.fix t hok
      simp only [h0] at this
      simp only [tmOf, this]
    have ha := hna t
    cases hq : g t <;> rw [hq] at hst ha <;> simp only [SR, aliasOf] at hst ha ⊢ <;> first
      | (cases ha; done)
      | (obtain ⟨b, ty, h1, h2, h3, h4, h5, h6⟩ := hst; exact ⟨b, ty, h1, by rw [← e]; exact h2, by rw [tmOf_ge h5] at h3 ⊢; exact h3, h4, h5, h6⟩)
      | (rw [← e]; exact hst)
      | exact hst

/-- the marks of ranges over functions that are over: nothing is deferred -/
def mark (D : Nat) : Deferred := { target := .collected D, args := #[] }
def MarksOk (B : Nat) (n : Nz) (df : List Deferred) : Prop := ∃ Ds : List Nat, Ds.Nodup ∧ df = Ds.map mark ∧ ∀ D ∈ Ds, B ≤ D ∧ n.wk.heap[D]? = some (.deferred (some []))

/-- which frames may follow one another: within a round, the same -/
def Adm (B : Nat) (rd : Option Nat) (okf : Nat → Bool) (n0 : Nz) (df0 : List Deferred) (n : Nz) (df : List Deferred) : Prop :=
  (∀ d, okf d = true → n.Has d) ∧ (rd = none → MarksOk B n df) ∧ (rd.isSome = true → n = n0 ∧ df = df0)

/-- the iterators that are ranged over have their contracts; there is no range within a round -/
def BackOk (P : Program) (rd : Option Nat) (pc : PC) : Prop := pc.backs = [] ∨ (rd = none ∧ ∀ q ∈ pc.backs, IsBack P q.1 q.2.1 q.2.2)

theorem BackOk.left {rd : Option Nat} {pc : PC} {l r : List (Nat × Bool × Nat)} (h : BackOk P rd pc) {x : PC} (e : pc.backs = l ++ r) (hx : x.backs = l) : BackOk P rd x := by
  rcases h with h | ⟨h1, h2⟩
  · rw [e] at h; exact .inl (by rw [hx]; exact (List.append_eq_nil_iff.1 h).1)
  · exact .inr ⟨h1, fun q hq => h2 q (by rw [e]; rw [hx] at hq; exact List.mem_append_left _ hq)⟩
theorem BackOk.right {rd : Option Nat} {pc : PC} {l r : List (Nat × Bool × Nat)} (h : BackOk P rd pc) {x : PC} (e : pc.backs = l ++ r) (hx : x.backs = r) : BackOk P rd x := by
  rcases h with h | ⟨h1, h2⟩
  · rw [e] at h; exact .inl (by rw [hx]; exact (List.append_eq_nil_iff.1 h).2)
  · exact .inr ⟨h1, fun q hq => h2 q (by rw [e]; rw [hx] at hq; exact List.mem_append_right _ hq)⟩

variable (hL : ∀ w w', L w → Below w.heap.size w w' → L w')
include hL

omit hL in
/-- a piece shown by hand: it may be taken wherever its meaning holds -/
def CusOk (P : Program) (L : World → Prop) (c : Code) (ws : List Nat) (T : PT) : Prop :=
  ∀ (nn : Nat) (rd : Option Nat) (okf : Nat → Bool) (S0 : Nat → Nat → Prop) (w0 : World) (n0 : Nz) (df0 : List Deferred) (M : Env → Prop) (Qc : Exit → Act → World → Prop) (E : Env) (tm : Array Value) (w : World) (n : Nz) (df : List Deferred),
    (∀ t ∈ ws, okf t = true) → L w0 → Adm w0.heap.size rd okf n0 df0 n df → (∀ t, aliasOf (lk E t) = none) → Good P n S0 w0 (lk E) tm w → T.f M E →
    (∀ E' tm' w' n' df', M E' → (∀ t, aliasOf (lk E' t) = none) → Adm w0.heap.size rd okf n0 df0 n' df' → Good P n' S0 w0 (lk E') tm' w' → Qc .normal ⟨tm', df'⟩ w') → c.wpIn (WF rd) nn P Qc ⟨tm, df⟩ w

omit hL in
theorem cus_of {nn : Nat} {rd : Option Nat} {okf : Nat → Bool} {n0 : Nz} {df0 : List Deferred} {c : Code} {ws : List Nat} {T : PT} {Q : Ex → Env → Prop} {Qc : Exit → Act → World → Prop} {E : Env} {df : List Deferred}
    (hC : ∀ q ∈ cusL c (.cus ws T), CusOk P L q.1 q.2.1 q.2.2) (hws : ws.all okf = true) (hL0 : L w0) (had : Adm w0.heap.size rd okf n0 df0 n df) (hna : ∀ t, aliasOf (lk E t) = none) (hg : Good P n S0 w0 (lk E) tm w) (hwp : wpC (Con P L) (.cus ws T) Q E)
    (hQ : ∀ ex E' tm' w' n' df', Q ex E' → (∀ t, aliasOf (lk E' t) = none) → Adm w0.heap.size rd okf n0 df0 n' df' → Good P n' S0 w0 (lk E') tm' w' → Qc ex.to ⟨tm', df'⟩ w') : c.wpIn (WF rd) nn P Qc ⟨tm, df⟩ w :=
  hC (c, ws, T) (by cases c <;> exact List.mem_singleton_self _) nn rd okf S0 w0 n0 df0 _ Qc E tm w n df (fun t ht => List.all_eq_true.1 hws t ht) hL0 had hna hg hwp (fun E' tm' w' n' df' h1 h2 h3 h4 => hQ .nrm E' tm' w' n' df' h1 h2 h3 h4)

theorem wpC_sound {nn : Nat} (hL0 : L w0) : ∀ (c : Code) {rd : Option Nat} {okf : Nat → Bool} {n0 : Nz} {df0 : List Deferred} (pc : PC) (_hB : BackOk P rd pc) (_hC : ∀ q ∈ cusL c pc, CusOk P L q.1 q.2.1 q.2.2) (Q : Ex → Env → Prop) (Qc : Exit → Act → World → Prop) (E : Env) (tm : Array Value) (w : World) (n : Nz) (df : List Deferred),
    Adm w0.heap.size rd okf n0 df0 n df → chkC P okf c pc = true →
    (∀ t, aliasOf (lk E t) = none) → Good P n S0 w0 (lk E) tm w → wpC (Con P L) pc Q E →
    (∀ ex E' tm' w' n' df', Q ex E' → (∀ t, aliasOf (lk E' t) = none) → Adm w0.heap.size rd okf n0 df0 n' df' → Good P n' S0 w0 (lk E') tm' w' → Qc ex.to ⟨tm', df'⟩ w') → c.wpIn (WF rd) nn P Qc ⟨tm, df⟩ w := by
  intro c
  induction c with
  | skip =>
    intro rd okf n0 df0 pc hB hC Q Qc E tm w n df had hc hna hg hwp hQ
    cases pc <;> simp only [chkC] at hc <;> (try cases hc; done) <;> (try (exact cus_of hC hc hL0 had hna hg hwp hQ))
    · exact wpIn_skip (hQ .nrm E tm w n df hwp hna had hg)
    · exact hwp.elim
  | seq a b iha ihb =>
    intro rd okf n0 df0 pc hB hC Q Qc E tm w n df had hc hna hg hwp hQ
    cases pc <;> simp only [chkC] at hc <;> (try cases hc; done) <;> (try (exact cus_of hC hc hL0 had hna hg hwp hQ))
    · exact hwp.elim
    · rename_i x y
      simp only [Bool.and_eq_true] at hc
      refine wpIn_seq (iha x (hB.left rfl rfl) (fun q hq => hC q (List.mem_append_left _ hq)) _ _ E tm w n df had hc.1 hna hg hwp ?_)
      intro ex E' tm' w' n' df' hq hna' had' hg'
      cases ex with
      | nrm => exact ihb y (hB.right rfl rfl) (fun q hq => hC q (List.mem_append_right _ hq)) Q Qc E' tm' w' n' df' had' hc.2 hna' hg' hq hQ
      | exit id => exact hQ (.exit id) E' tm' w' n' df' hq hna' had' hg'
      | ret => exact hQ .ret E' tm' w' n' df' hq hna' had' hg'
  | region id ops draw =>
    intro rd okf n0 df0 pc hB hC Q Qc E tm w n df had hc hna hg hwp hQ
    cases pc <;> simp only [chkC] at hc <;> (try cases hc; done) <;> (try (exact cus_of hC hc hL0 had hna hg hwp hQ))
    · exact hwp.elim
    · rename_i ps live
      simp only [Bool.and_eq_true] at hc
      obtain ⟨hc1, hc2⟩ := hc
      obtain ⟨E', hseq, hK⟩ := wpE_seq hwp
      have hali : AliasIn [] (lk E) := fun t s h => by rw [hna t] at h; cases h
      have hfin : ∀ tm' w', Good P n S0 w0 (lk E') tm' w' → Qc .normal ⟨tm', df⟩ w' := fun tm' w' hg' => hQ .nrm _ tm' w' n df hK (keepE_noAlias live E') had hg'.keep
      cases draw with
      | false =>
        simp only [Bool.false_eq_true, if_false] at hc2
        exact wpIn_region_list (wpList_sound hL had.1 hL0 hfin ops.toList ps [] (lk E) tm w hc1 hc2 hali hg hseq)
      | true =>
        simp only [if_true, Bool.and_eq_true] at hc2
        obtain ⟨hlen, _⟩ := chkList_get hc1
        have hrem : ∀ (ps : List PO) (k m : Nat), k + ps.length ≤ m → remFrom (Array.replicate m false) k ps = ps := by
          intro ps
          induction ps with
          | nil => intro k m _; rfl
          | cons p ps ih =>
            intro k m h
            simp only [List.length_cons] at h
            simp only [remFrom]
            rw [if_neg (by simp [Array.getD_eq_getD_getElem?, show k < m by omega]), ih (k + 1) m (by omega)]
        have hrem0 := hrem ps 0 ops.size (by rw [← hlen]; simp)
        obtain ⟨S, O, gv, hI⟩ := hg
        have hg' : Good P n S0 w0 (lk E) tm { w with drawn := w.drawn + 1 } := ⟨S, O, gv, hI.ext hI.extRefl.drew⟩
        exact wpIn_region_any hc2.2 (wpAny_sound2 hL had.1 hL0 hfin hc1 hc2.1 ops.size (Array.replicate ops.size false) [] (lk E) tm _ (by simp) (by rw [hrem0, ← hlen]; simp) (fun q hq => by simp at hq)
          (fun j hj => by
            simp [Array.getD_eq_getD_getElem?, Array.getElem?_replicate] at hj
            split at hj <;> simp at hj) hali hg' (by rw [hrem0]; exact hseq))
  | cond c t e iht ihe =>
    intro rd okf n0 df0 pc hB hC Q Qc E tm w n df had hc hna hg hwp hQ
    cases pc <;> simp only [chkC] at hc <;> (try cases hc; done) <;> (try (exact cus_of hC hc hL0 had hna hg hwp hQ))
    · exact hwp.elim
    · rename_i x a b
      simp only [Bool.and_eq_true] at hc
      simp only [wpC] at hwp
      split at hwp <;> try (exact hwp.elim)
      rename_i bb hb
      obtain ⟨S, O, gv, hI⟩ := id hg
      have hv := hI.boolOf hc.1.1 hb
      refine wpIn_cond_split (t := bb) (by rw [eval_eq]; exact hv) (fun h => ?_) (fun h => ?_)
      · exact iht a (hB.left rfl rfl) (fun q hq => hC q (List.mem_append_left _ hq)) Q Qc E tm w n df had hc.1.2 hna hg (hwp.1 h) hQ
      · exact ihe b (hB.right rfl rfl) (fun q hq => hC q (List.mem_append_right _ hq)) Q Qc E tm w n df had hc.2 hna hg (hwp.2 h) hQ
  | block id b ih =>
    intro rd okf n0 df0 pc hB hC Q Qc E tm w n df had hc hna hg hwp hQ
    cases pc <;> simp only [chkC] at hc <;> (try cases hc; done) <;> (try (exact cus_of hC hc hL0 had hna hg hwp hQ))
    · exact hwp.elim
    · rename_i id' x
      simp only [Bool.and_eq_true, beq_iff_eq] at hc
      obtain ⟨rfl, hc⟩ := hc
      refine wpIn_block (ih x hB hC _ _ E tm w n df had hc hna hg hwp ?_)
      intro ex E' tm' w' n' df' hq hna' had' hg'
      cases ex with
      | nrm => exact hQ .nrm E' tm' w' n' df' hq hna' had' hg'
      | exit i =>
        simp only [Ex.to, Exit.inBlock]
        simp only at hq
        split
        · rename_i e; rw [if_pos e] at hq; exact hQ .nrm E' tm' w' n' df' hq hna' had' hg'
        · rename_i e; rw [if_neg e] at hq; exact hQ (.exit i) E' tm' w' n' df' hq hna' had' hg'
      | ret => exact hQ .ret E' tm' w' n' df' hq hna' had' hg'
  | loop b ih =>
    intro rd okf n0 df0 pc hB hC Q Qc E tm w n df had hc hna hg hwp hQ
    cases pc <;> simp only [chkC] at hc <;> (try cases hc; done) <;> (try (exact cus_of hC hc hL0 had hna hg hwp hQ))
    · exact hwp.elim
    · rename_i x
      obtain ⟨I, m, hI0, hround⟩ := hwp
      let R : Nat → Act → World → Prop := fun k a w => ∃ E, m E = k ∧ I E ∧ (∀ t, aliasOf (lk E t) = none) ∧ ∃ n', Adm w0.heap.size rd okf n0 df0 n' a.defers ∧ Good P n' S0 w0 (lk E) a.tmps w
      let mu : Act → World → Nat := fun a w => Classical.epsilon fun k => R k a w ∧ ∀ k', R k' a w → k ≤ k'
      have hmu : ∀ a w, (∃ k, R k a w) → R (mu a w) a w ∧ ∀ k', R k' a w → mu a w ≤ k' := fun a w h => Classical.epsilon_spec (p := fun k => R k a w ∧ ∀ k', R k' a w → k ≤ k') (exists_least h)
      refine wpIn_loop (fun a w => ∃ k, R k a w) mu ⟨m E, E, rfl, hI0, hna, n, had, hg⟩ ?_
      intro a w hI
      obtain ⟨⟨E1, e1, e2, e3, n1, e4, e5⟩, _⟩ := hmu a w hI
      obtain ⟨tma, dfa⟩ := a
      simp only at e4 e5
      refine ih x hB hC _ _ E1 tma w n1 dfa e4 hc e3 e5 (hround E1 e2) ?_
      intro ex E' tm' w' n' df' hq hna' had' hg'
      cases ex with
      | nrm =>
        have h2 : ∃ k, R k ⟨tm', df'⟩ w' := ⟨m E', E', rfl, hq.1, hna', n', had', hg'⟩
        refine ⟨h2, ?_⟩
        have h3 := (hmu ⟨tm', df'⟩ w' h2).2 (m E') ⟨E', rfl, hq.1, hna', n', had', hg'⟩
        have h4 := hq.2
        rw [e1] at h4
        exact Nat.lt_of_le_of_lt h3 h4
      | exit id => exact hQ (.exit id) E' tm' w' n' df' hq hna' had' hg'
      | ret => exact hQ .ret E' tm' w' n' df' hq hna' had' hg'
  | exit id =>
    intro rd okf n0 df0 pc hB hC Q Qc E tm w n df had hc hna hg hwp hQ
    cases pc <;> simp only [chkC] at hc <;> (try cases hc; done) <;> (try (exact cus_of hC hc hL0 had hna hg hwp hQ))
    · exact hwp.elim
    · simp only [beq_iff_eq] at hc
      subst hc
      exact wpIn_exit (hQ (.exit _) E tm w n df hwp hna had hg)
  | ret =>
    intro rd okf n0 df0 pc hB hC Q Qc E tm w n df had hc hna hg hwp hQ
    cases pc <;> simp only [chkC] at hc <;> (try cases hc; done) <;> (try (exact cus_of hC hc hL0 had hna hg hwp hQ))
    · exact hwp.elim
    · exact wpIn_ret (hQ .ret E tm w n df hwp hna had hg)
  | rangeFunc g ps assign body iha ihb =>
    intro rd okf n0 df0 pc hB hC Q Qc E tm w n df had hc hna hg hwp hQ
    cases pc with
    | bad => exact hwp.elim
    | cus ws T => exact cus_of hC hc hL0 had hna hg hwp hQ
    | rfn f ag sz gs k1 k2 rs asg bd out =>
      cases g with
      | tmp g =>
        simp only [chkC, Bool.and_eq_true, beq_iff_eq, bne_iff_ne, ne_eq, Bool.not_eq_true', List.isEmpty_iff] at hc
        obtain ⟨⟨⟨⟨⟨⟨⟨⟨⟨⟨⟨⟨rfl, rfl⟩, hbody⟩, hr1⟩, hr2⟩, hk12⟩, hrok⟩, hrg⟩, hout⟩, hna1⟩, hna2⟩, hc1⟩, hc2⟩ := hc
        have hB2 : rd = none ∧ IsBack P f ag sz := by
          rcases hB with h | ⟨h1, h2⟩
          · simp [PC.backs] at h
          · exact ⟨h1, h2 _ (List.mem_cons_self ..)⟩
        obtain ⟨rfl, hback⟩ := hB2
        simp only [wpC] at hwp
        unfold backOf at hwp
        split at hwp <;> try (exact hwp.elim)
        rename_i f' m cs r hgs
        obtain ⟨rfl, hm, I, hI0, hIg, hIm, hround⟩ := hwp
        have hoks : ∀ t, rs.contains t = true → okf t = true := fun t ht => List.all_eq_true.1 hrok t (by simpa using ht)
        have houts : ∀ t, t ∈ out → rs.contains t = false := fun t ht => by have := List.all_eq_true.1 hout t ht; simpa using this
        -- the closure and its pointer
        obtain ⟨S1, O1, gv1, hI1⟩ := id hg
        have hrep := hI1.rep (t := g) (by rw [hgs]; rfl)
        rw [hgs] at hrep
        obtain ⟨Bs, bo, htmg⟩ : ∃ Bs bo, tm.getD g undef = .func (.func f') #[] #[.pointer (some ⟨Bs, bo, none⟩)] := by
          generalize tm.getD g undef = v at hrep
          cases hrep with
          | clo _ _ vs hl h =>
            match vs, hl with
            | [v], _ =>
              have := h 0 _ v rfl rfl
              cases this
              exact ⟨_, _, rfl⟩
        have hw0 : w0.heap.size ≤ w.heap.size := hI1.below.size
        let IW : Nat → World → Prop := fun k W => ∃ E1, I k E1 ∧ (∀ t, rs.contains t = true → lk E1 t = .un) ∧ (∀ t, aliasOf (lk E1 t) = none) ∧ Good P { n with wk := w } S0 w0 (lk E1) tm W
        have hunk : ∀ E' : Env, ∀ t, rs.contains t = true → lk (keepE out E') t = .un := fun E' t ht => by
          rw [lk_keepE, if_neg]
          intro hm; rw [houts t hm] at ht; cases ht
        refine wpIn_back (a := ⟨tm, df⟩) hback hm (by rw [eval_eq]; exact htmg) hbody IW ?_ ?_ ?_ ⟨_, hI0, hunk E, keepE_noAlias out E, hg.keep.rewk⟩ ?_ ?_
        · rintro k W j o o' ⟨E1, e1, e2, e3, e4⟩ hj ho hc1 hc2
          exact ⟨E1, e1, e2, e3, e4.putObjK ho hc1 hc2 (by omega) hj⟩
        · rintro o W ⟨E1, e1, e2, e3, S, O, gv, e4⟩
          exact ⟨E1, e1, e2, e3, S, O, gv, e4.ext (e4.extRefl.alloc e4.below.size o)⟩
        · rintro k W ⟨E1, e1, e2, e3, S, O, gv, e4⟩
          have h1 := hIg k E1 e1
          have h2 := e4.rep (t := g) (by rw [h1, hgs]; rfl)
          rw [h1, hgs, htmg] at h2
          cases h2 with
          | clo _ _ vs hl h => exact ⟨S, r, h 0 _ _ rfl rfl⟩
        · -- a round
          rintro l k W S d x hkm ⟨E1, e1, e2, e3, e4⟩ hof hx hl ⟨ol, hol, holc⟩
          obtain ⟨d', hd', hflat, hw⟩ := hround k E1 hkm e1
          rw [hof] at hd'; cases hd'
          let okr : Nat → Bool := fun t => rs.contains t && okf t
          let n2 : Nz := { n := n.n, ok := okr, tm0 := tm, wk := W }
          have hhas : ∀ t, okr t = true → n2.Has t := fun t ht => ⟨(had.1 t (by simp only [okr, Bool.and_eq_true] at ht; exact ht.2)).1, ht⟩
          have hcon : ∀ t, rs.contains t = true → okr t = true := fun t ht => by simp only [okr, Bool.and_eq_true]; exact ⟨ht, hoks t ht⟩
          obtain ⟨S2, O2, gv2, hI2⟩ := e4
          have hI3 : Inv P { n2 with gv := gv2 } S0 w0 S2 O2 (lk E1) tm W := ⟨hI2.size, hI2.below, hI2.sub, hI2.sup, hI2.ex, hI2.inj, hI2.base, hI2.slot, fun _ _ => rfl, fun _ _ x _ => x, hI2.nb, hI2.gh⟩
          have hI4 := hI3.setPure (d := .int .i64 ((m - 1 - k : Nat) : Int)) (v := .int .i64 ((m - 1 - k : Nat) : Int)) (dst := k1) hI3.extRefl (fun _ _ x => x) (fun _ _ x => .inl x) (.int _ _) (hhas _ (hcon _ hr1)) (fun t' s h => by rw [e3 t'] at h; cases h)
          have hna4 : ∀ t, aliasOf (upd (lk E1) k1 (.int .i64 ((m - 1 - k : Nat) : Int)) t) = none := fun t => by
            unfold upd; split
            · rfl
            · exact e3 t
          have hI5 := hI4.setPure (d := d) (v := x) (dst := k2) hI4.extRefl (fun _ _ x => x) (fun _ _ x => .inl x) (hx.ofFlat0 hflat) (hhas _ (hcon _ hr2)) (fun t' s h => by rw [hna4 t'] at h; cases h)
          have hsets : lk (sets E1 [(k1, .int .i64 ((m - 1 - k : Nat) : Int)), (k2, d)]) = upd (upd (lk E1) k1 (.int .i64 ((m - 1 - k : Nat) : Int))) k2 d := by
            rw [lk_sets]; rfl
          have hdal : aliasOf d = none := by cases d <;> first | rfl | simp [D.flat0, D.simple] at hflat
          rw [← hsets] at hI5
          have hna5 : ∀ t, aliasOf (lk (sets E1 [(k1, .int .i64 ((m - 1 - k : Nat) : Int)), (k2, d)]) t) = none := fun t => by
            rw [hsets]; unfold upd; split
            · exact hdal
            · exact hna4 t
          refine iha (rd := some l) (okf := okr) (n0 := n2) (df0 := []) asg (.inl hna1) (fun q hq => hC q (List.mem_append_left _ hq)) _ _ _ _ W n2 [] ⟨hhas, (fun h => by cases h), (fun _ => ⟨rfl, rfl⟩)⟩ hc1 hna5 ⟨_, _, _, hI5⟩ hw ?_
          intro ex E' tm' w' n' df' hq hna' had' hg'
          obtain ⟨rfl, rfl⟩ := had'.2.2 rfl
          cases ex with
          | exit id => exact hq.elim
          | ret => exact hq.elim
          | nrm =>
            refine ⟨?_, fun o' ho' => ?_⟩
            · obtain ⟨S6, O6, gv6, hI6⟩ := id hg'
              exact hI6.keep
            · have holw : w'.heap[l]? = some ol := by obtain ⟨S6, O6, gv6, hI6⟩ := id hg'; exact hI6.keep l ol hol holc
              have hg6 := hg'.putObj holw holc ho' (Nat.le_trans hw0 hl)
              let n3 : Nz := { n2 with wk := w'.putObj l o' }
              refine ihb (rd := some l) (okf := okr) (n0 := n3) (df0 := []) bd (.inl hna2) (fun q hq => hC q (List.mem_append_right _ hq)) _ _ _ _ _ n3 [] ⟨hhas, (fun h => by cases h), (fun _ => ⟨rfl, rfl⟩)⟩ hc2 hna' hg6 hq ?_
              intro ex E3 tm3 W3 n' df' hq3 hna3 had3 hg3
              obtain ⟨rfl, rfl⟩ := had3.2.2 rfl
              cases ex with
              | exit id => exact hq3.elim
              | ret => exact hq3.elim
              | nrm =>
                obtain ⟨S7, O7, gv7, hI7⟩ := id hg3
                refine ⟨rfl, hI7.keep, _, hq3, hunk E3, keepE_noAlias out E3, ?_⟩
                refine (hg3.keep (live := out)).retm hI2.size hI2.fix ?_ hI2.nb (keepE_noAlias out E3) rfl (fun t ht => hunk E3 t ?_)
                · intro j o hj ho
                  have h1 : W.heap[j]? = some o := hI2.keep j o hj ho
                  have h2 : w'.heap[j]? = some o := by obtain ⟨S6, O6, gv6, hI6⟩ := id hg'; exact hI6.keep j o h1 ho
                  refine hI7.keep j o ((World.putObj_heap_other (fun e => ?_)).trans h2) ho
                  have h3 : j < w.heap.size := (Array.getElem?_eq_some_iff.1 hj).1
                  omega
                · have ht' : okr t = true := ht
                  simp only [okr, Bool.and_eq_true] at ht'
                  exact ht'.1
        · -- behind
          rintro D W hD ⟨E1, e1, e2, e3, e4⟩ hWD
          refine hQ .nrm E1 tm W { n with wk := W } _ (hIm E1 e1) e3 ⟨had.1, fun _ => ?_, fun h => by cases h⟩ e4.rewk
          obtain ⟨Ds, hnd, hdf, hDs⟩ := had.2.1 rfl
          have hDw : ∀ D' ∈ Ds, w.heap[D']? = some (.deferred (some [])) := fun D' hD' => hI1.keep D' _ (hDs D' hD').2 rfl
          obtain ⟨S8, O8, gv8, hI8⟩ := e4
          refine ⟨D :: Ds, List.nodup_cons.2 ⟨fun hm => ?_, hnd⟩, by rw [hdf]; rfl, fun D' hm => ?_⟩
          · have := (Array.getElem?_eq_some_iff.1 (hDw D hm)).1
            omega
          · rcases List.mem_cons.1 hm with rfl | hm
            · exact ⟨Nat.le_trans hw0 hD, hWD⟩
            · exact ⟨(hDs D' hm).1, hI8.keep D' _ (hDw D' hm) rfl⟩
      | _ => simp [chkC] at hc
    | _ => simp [chkC] at hc
  | _ =>
    intro rd okf n0 df0 pc hB hC Q Qc E tm w n df had hc hna hg hwp hQ
    cases pc <;> simp only [chkC] at hc <;> first
      | (cases hc; done)
      | exact hwp.elim
      | exact cus_of hC hc hL0 had hna hg hwp hQ

end Go.Pi
