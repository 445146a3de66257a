/-
  A RANGE OVER slices.Backward: the law of the statement, told which element comes in which round. Own work (after the kit's law of ranges over a function).
-/
import Derived.Test.YtijkmdpdedagdaaGreatDoorPg
import Derived.RangeFuncBox
import Derived.RangeFuncLeaves
set_option linter.unusedVariables false
set_option linter.unusedSimpArgs false
namespace Go.Pi
open Go Go.RowKit

/-- f is the iterator of slices.Backward over elements of sz cells (ag: structs) -/
def IsBack (P : Program) (f : Nat) (ag : Bool) (sz : Nat) : Prop := ∀ (nn l Bs bo : Nat) (J : Nat → World → Prop) (m : Nat) (cs : List D) (W : World), m * sz = cs.length →
  (∀ k W, J k W → ∃ S r, Rep S W (.pt (.sl m cs :: r)) (.pointer (some ⟨Bs, bo, none⟩))) →
  (∀ k W, k < m → J k W → ∀ S d x, ofCells ag sz (cs.drop ((m - 1 - k) * sz)) = some d → Rep S W d x → YieldAt Fence.wide nn P l #[.int .i64 ((m - 1 - k : Nat) : Int), x] W fun e W' => e = .returned (.bool true) ∧ J (k + 1) W') →
  J 0 W → CallsIn Fence.wide (nn + 1) P f #[.func (.yield l) #[] #[], .pointer (some ⟨Bs, bo, none⟩)] W fun e W' => (∃ v, e = .returned v) ∧ J m W'

/-- whatever is no cells stands -/
def Keeps (W W' : World) : Prop := ∀ (k : Nat) (o : Obj), W.heap[k]? = some o → o.isCells = false → W'.heap[k]? = some o

theorem callFunc_ok {P : Program} {f : FuncId} (hb : hasBody P f = true) (args : Array Value) (w : World) : (callFunc f args).run P w = .ok (.enter f args) w := by
  unfold hasBody at hb
  split at hb
  · rename_i fn hf
    simp only [Bool.and_eq_true, bne_iff_ne, ne_eq] at hb
    obtain ⟨h1, h2⟩ := hb
    obtain ⟨c, hc⟩ := Option.isSome_iff_exists.1 h1
    simp [callFunc, *]
  · cases hb

theorem wpIn_back {P : Program} {nn : Nat} {gf : Nat} {ag : Bool} {sz : Nat} (hb : IsBack P gf ag sz) {g : Operand} {k1 k2 : Nat} {assign body : Code} {Q : Exit → Act → World → Prop} {a : Act} {w : World} {m : Nat} {cs : List D} {Bs bo : Nat}
    (hm : m * sz = cs.length) (hg : a.eval g = .func (.func gf) #[] #[.pointer (some ⟨Bs, bo, none⟩)]) (eg : hasBody P gf = true)
    (I : Nat → World → Prop)
    (hI : ∀ k W j o o', I k W → w.heap.size ≤ j → W.heap[j]? = some o → o.isCells = false → o'.isCells = false → I k (W.putObj j o'))
    (hIa : ∀ o W, I 0 W → I 0 (W.alloc o))
    (hp : ∀ k W, I k W → ∃ S r, Rep S W (.pt (.sl m cs :: r)) (.pointer (some ⟨Bs, bo, none⟩)))
    (h0 : I 0 w)
    (hround : ∀ (l k : Nat) (W : World) (S : Nat → Nat → Prop) (d : D) (x : Value), k < m → I k W → ofCells ag sz (cs.drop ((m - 1 - k) * sz)) = some d → Rep S W d x → w.heap.size ≤ l → (∃ o, W.heap[l]? = some o ∧ o.isCells = false) →
      assign.wpIn (WF (some l)) nn P (Exit.then (fun a₁ w₁ => Keeps W w₁ ∧ ∀ o', o'.isCells = false → body.wpIn (WF (some l)) nn P (fun e _ W3 => e = .normal ∧ Keeps (w₁.putObj l o') W3 ∧ I (k + 1) W3) a₁ (w₁.putObj l o')) (fun _ _ _ => False))
        { tmps := (a.tmps.setIfInBounds k1 (.int .i64 ((m - 1 - k : Nat) : Int))).setIfInBounds k2 x, defers := [] } W)
    (hdone : ∀ (D : Nat) (W : World), w.heap.size ≤ D → I m W → W.heap[D]? = some (.deferred (some [])) → Q .normal { a with defers := { target := .collected D, args := #[] } :: a.defers } W) :
    (Code.rangeFunc g #[k1, k2] assign body).wpIn (WF none) nn P Q a w := by
  refine wpIn_rangeFunc ?_
  intro fn hfn
  show ∃ (l : Nat) (mark : List Deferred) (w₁ : World) (d : Deferred) (w₁' : World) (f : FuncId) (args : Array Value) (w₂ : World),
      (Instr.enterLoop fn a.tmps #[k1, k2] assign body none).run P w = .ok (l, mark) w₁ ∧ _
  obtain ⟨rec, hrec⟩ : ∃ rec : LoopState → Option Code → Loop, rec = fun st pe => { state := st, pending := pe, fn, tmps := a.tmps, params := #[k1, k2], assign, body, defers := w.heap.size } := ⟨_, rfl⟩
  obtain ⟨W1, hW1⟩ : ∃ W1, (w.alloc (.deferred (some []))).alloc (.loop (rec .ready none)) = W1 := ⟨_, rfl⟩
  have hL1 : W1.heap[w.heap.size + 1]? = some (.loop (rec .ready none)) := by
    rw [← hW1]; have := World.alloc_heap_new (w.alloc (.deferred (some []))) (.loop (rec .ready none)); rwa [World.size_alloc] at this
  have hK1 : W1.heap[w.heap.size]? = some (.deferred (some [])) := by
    rw [← hW1]; exact (Below.heap_alloc _ _ _ (by simp)).trans (World.alloc_heap_new w _)
  have hI1 : I 0 W1 := by rw [← hW1]; exact hIa _ _ (hIa _ _ h0)
  refine ⟨w.heap.size + 1, [{ target := .collected w.heap.size, args := #[] }], W1, { target := .fn (.func gf) #[.pointer (some ⟨Bs, bo, none⟩)], args := #[.func (.yield (w.heap.size + 1)) #[] #[]] }, W1, gf,
    #[.func (.yield (w.heap.size + 1)) #[] #[]] ++ #[.pointer (some ⟨Bs, bo, none⟩)], W1, ?_, ?_, ?_, ?_, ?_, ?_⟩
  · rw [← hW1, hrec]; exact run_enterLoop_outer _ _ _ _ _
  · simp only [resolve, hg]
    simp [go_sem]
  · intro f' _; trivial
  · have := callFunc_ok eg (#[.func (.yield (w.heap.size + 1)) #[] #[]] ++ #[.pointer (some ⟨Bs, bo, none⟩)]) W1
    simpa [invoke, go_sem] using this
  · intro h; cases h
  · have key := hb nn (w.heap.size + 1) Bs bo
      (fun k W => I k W ∧ W.heap[w.heap.size + 1]? = some (.loop (rec .ready none)) ∧ W.heap[w.heap.size]? = some (.deferred (some []))) m cs W1 hm (fun k W h => hp k W h.1) ?_ ⟨hI1, hL1, hK1⟩
    · refine CallsIn.mono ((callsIn_wide (n := nn - 1)).2 (callsIn_wide.1 key)) ?_
      rintro e W2 ⟨⟨v, rfl⟩, hi, hl, hk⟩
      refine ⟨none, _, by have := run_endLoop (P := P) hl (by rw [hrec]; simp); rw [hrec] at this; exact this, hdone _ _ (Nat.le_refl _) (hI _ _ _ _ _ hi (by omega) hl rfl rfl) ((World.putObj_heap_other (by omega)).trans hk)⟩
    · -- one round
      rintro k W hkm ⟨hi, hl, hk⟩ S d x hd hx
      have hlt : w.heap.size + 1 < W.heap.size := (Array.getElem?_eq_some_iff.1 hl).1
      have hy := run_yield (P := P) (args := #[.int .i64 ((m - 1 - k : Nat) : Int), x]) hl (by rw [hrec]; rfl)
      rw [hrec] at hy
      have htm : (#[k1, k2].zip #[Value.int .i64 ((m - 1 - k : Nat) : Int), x]).foldl (fun tmps (t, a) => tmps.setIfInBounds t a) a.tmps = (a.tmps.setIfInBounds k1 (.int .i64 ((m - 1 - k : Nat) : Int))).setIfInBounds k2 x := by
        simp
      refine ⟨fn, _, assign, body, hy, roundIn_of_wpIn hfn ?_⟩
      simp only [htm]
      refine wpIn_mono (hround (w.heap.size + 1) k W S d x hkm hi hd hx (by omega) ⟨_, hl, rfl⟩) ?_
      rintro e a₁ w₁ hq
      cases e with
      | normal =>
        obtain ⟨hk1, hbody⟩ := hq
        have hl1 := hk1 _ _ hl rfl
        refine ⟨_, run_beginRound hl1 (by rw [hrec]), ?_⟩
        have hlt1 : w.heap.size + 1 < w₁.heap.size := (Array.getElem?_eq_some_iff.1 hl1).1
        have hl2 : (w₁.putObj (w.heap.size + 1) (.loop { rec .ready none with state := .busy })).heap[w.heap.size + 1]? = some (.loop { rec .ready none with state := .busy }) := World.putObj_heap_same hlt1
        have hk2 : (w₁.putObj (w.heap.size + 1) (.loop { rec .ready none with state := .busy })).heap[w.heap.size]? = some (.deferred (some [])) := (World.putObj_heap_other (by omega)).trans (hk1 _ _ hk rfl)
        refine wpIn_mono (hbody _ rfl) ?_
        rintro e a3 W3 ⟨rfl, hk3, hi3⟩
        have hl3 := hk3 _ _ hl2 rfl
        have hr := run_endRound (P := P) none hl3
        rw [hrec] at hr
        refine ⟨_, _, hr, rfl, hI _ _ _ _ _ hi3 (by omega) hl3 rfl rfl, ?_, ?_⟩
        · rw [hrec]; exact World.putObj_heap_same (Array.getElem?_eq_some_iff.1 hl3).1
        · exact (World.putObj_heap_other (by omega)).trans (hk3 _ _ hk2 rfl)
      | exit id => exact hq.elim
      | goto t => exact hq.elim
      | ret => exact hq.elim
      | panic chain => exact hq.elim
      | outgrown => exact hq.elim

end Go.Pi

/-
  CODE AS A WHOLE; A FUNCTION's CONTRACT OUT OF ITS PURE READING. Own work.
-/
namespace Go.Pi
open Go Go.RowKit

variable {P : Program} {L : World → Prop} {n : Nz} {S0 S : Nat → Nat → Prop} {w0 w : World} {O : Nat → Option Nat} {g : G} {tm : Array Value} {o : Oper} {dst : Nat}

abbrev Env := List (Nat × D)

def lk : Env → Nat → D
  | [], _ => .un
  | (k, d) :: r, t => if t = k then d else lk r t

def st1 : Env → Nat → D → Env
  | [], t, d => [(t, d)]
  | (k, e) :: r, t, d => if t = k then (k, d) :: r else (k, e) :: st1 r t d

def sets : Env → List (Nat × D) → Env
  | E, [] => E
  | E, (t, d) :: r => sets (st1 E t d) r

theorem lk_st1 (E : Env) (t : Nat) (d : D) : lk (st1 E t d) = upd (lk E) t d := by
  funext x
  induction E with
  | nil => simp [st1, lk, upd]
  | cons p E ih =>
    obtain ⟨k, e⟩ := p
    simp only [st1]
    by_cases h : t = k
    · subst h
      simp only [if_true, lk, upd]
      by_cases h2 : x = t <;> simp [h2]
    · simp only [h, if_false, lk, upd] at ih ⊢
      rw [ih]
      by_cases h2 : x = k
      · subst h2
        have : ¬ x = t := fun e => h e.symm
        simp [this]
      · simp [h2]

theorem lk_sets (l : List (Nat × D)) : ∀ E : Env, lk (sets E l) = upds (lk E) l := by
  induction l with
  | nil => intro E; rfl
  | cons p l ih =>
    intro E
    obtain ⟨t, d⟩ := p
    simp only [sets, upds]
    rw [ih, lk_st1]

def D.clean : D → D
  | .al _ => .un
  | .rf .. => .un
  | d => d

def keepE : List Nat → Env → Env
  | [], _ => []
  | t :: r, E => (t, (lk E t).clean) :: keepE r E

theorem lk_keepE (live : List Nat) (E : Env) (t : Nat) : lk (keepE live E) t = if t ∈ live then (lk E t).clean else .un := by
  induction live with
  | nil => rfl
  | cons s r ih =>
    simp only [keepE, lk, List.mem_cons]
    by_cases h : t = s
    · subst h; simp
    · simp [h, ih]

/-- a call, with whatever contract is at hand -/
def CallP (C : FuncId → List D → D → Prop) (f : FuncId) (ods : Option (List D)) (M : D → Prop) : Prop :=
  match ods with
  | some ds => ∃ r, C f ds r ∧ M r
  | none => False

def doE (C : FuncId → List D → D → Prop) (p : PO) (M : Env → Prop) (E : Env) : Prop :=
  match p.k with
  | .call f args => CallP C f (optAll (args.map (lend (lk E)))) fun r => M (sets E ((K.call f args).after p.d (lk E) r))
  | .callV t args => match lk E t with
    | .clo f caps => CallP C f ((optAll (args.map (lend (lk E)))).map (· ++ caps)) fun r => M (sets E ((K.callV t args).after p.d (lk E) r))
    | _ => False
  | k => match k.run p.d (lk E) with
    | some l => M (sets E l)
    | none => False

def wpE (C : FuncId → List D → D → Prop) : List PO → (Env → Prop) → Env → Prop
  | [], K, E => K E
  | p :: ps, K, E => match p.guard with
    | none => doE C p (wpE C ps K) E
    | some (s, want) => match lk E s with
      | .bool b => (b = want → doE C p (wpE C ps K) E) ∧ ((!b) = want → wpE C ps K (st1 E p.d (.tup [])))
      | .tup [] => wpE C ps K (st1 E p.d (.tup []))
      | _ => False

theorem doE_do {p : PO} {M : Env → Prop} {E : Env} (h : doE (Con P L) p M E) : ∃ E', Do P L p (lk E) (lk E') ∧ M E' := by
  unfold doE at h
  split at h
  · rename_i f args hk
    unfold CallP at h
    split at h <;> try (exact h.elim)
    rename_i ds hds
    obtain ⟨r, hC, hK⟩ := h
    exact ⟨_, .inr ⟨f, ds, r, by rw [hk]; simp [K.callee, hds], hC, by rw [hk, lk_sets]⟩, hK⟩
  · rename_i t args hk
    split at h <;> try (exact h.elim)
    rename_i f caps ht
    unfold CallP at h
    split at h <;> try (exact h.elim)
    rename_i ds hds
    obtain ⟨r, hC, hK⟩ := h
    rw [Option.map_eq_some_iff] at hds
    obtain ⟨ds', h1, rfl⟩ := hds
    exact ⟨_, .inr ⟨f, ds' ++ caps, r, by rw [hk]; simp [K.callee, ht, h1], hC, by rw [hk, lk_sets]⟩, hK⟩
  · split at h <;> try (exact h.elim)
    rename_i l hl
    exact ⟨_, .inl ⟨l, hl, by rw [lk_sets]⟩, h⟩

theorem wpE_seq : ∀ {ps : List PO} {M : Env → Prop} {E : Env}, wpE (Con P L) ps M E → ∃ E', Seq P L ps (lk E) (lk E') ∧ M E'
  | [], M, E, h => ⟨E, rfl, h⟩
  | p :: ps, M, E, h => by
    unfold wpE at h
    split at h
    · rename_i hg
      obtain ⟨E1, h1, h2⟩ := doE_do h
      obtain ⟨E2, h3, h4⟩ := wpE_seq h2
      exact ⟨E2, ⟨lk E1, by unfold StepTo; rw [hg]; exact h1, h3⟩, h4⟩
    · rename_i s want hg
      split at h <;> try (exact h.elim)
      · rename_i b hb
        by_cases hbw : b = want
        · obtain ⟨E1, h1, h2⟩ := doE_do (h.1 hbw)
          obtain ⟨E2, h3, h4⟩ := wpE_seq h2
          exact ⟨E2, ⟨lk E1, by unfold StepTo; rw [hg]; exact .inl ⟨b, hb, by rw [if_pos hbw]; exact h1⟩, h3⟩, h4⟩
        · have h2 := h.2 (by cases b <;> cases want <;> simp_all)
          obtain ⟨E2, h3, h4⟩ := wpE_seq h2
          exact ⟨E2, ⟨lk (st1 E p.d (.tup [])), by unfold StepTo; rw [hg]; exact .inl ⟨b, hb, by rw [if_neg hbw, lk_st1]⟩, h3⟩, h4⟩
      · rename_i hb
        obtain ⟨E2, h3, h4⟩ := wpE_seq h
        exact ⟨E2, ⟨lk (st1 E p.d (.tup [])), by unfold StepTo; rw [hg]; exact .inr ⟨hb, by rw [lk_st1]⟩, h3⟩, h4⟩

/-- the ways out of a piece of code -/
inductive Ex where
  | nrm
  | exit (id : Nat)
  | ret

/-- the meaning of a piece of code that is shown by hand: what must hold so that M holds behind -/
structure PT where
  f : (Ex → Env → Prop) → Env → Prop
  /-- it may not stand within a round of a range over a function -/
  top : Bool := false
  mono : ∀ {M M' : Ex → Env → Prop} {E : Env}, (∀ ex E, M ex E → M' ex E) → f M E → f M' E

instance : Inhabited PT := ⟨⟨fun _ _ => False, false, fun _ h => h⟩⟩

inductive PC where
  | skip
  | bad
  | seq (a b : PC)
  | reg (ops : List PO) (live : List Nat)
  | cnd (c : PX) (t e : PC)
  | blk (id : Nat) (b : PC)
  | loop (b : PC)
  | exit (id : Nat)
  | ret
  | rfn (f : Nat) (ag : Bool) (sz gs k1 k2 : Nat) (rs : List Nat) (asg body : PC) (out : List Nat)
  | cus (ws : List Nat) (T : PT)
  deriving Inhabited

/-- the iterators of slices.Backward that a code ranges over -/
def PC.backs : PC → List (Nat × Bool × Nat)
  | .seq a b => a.backs ++ b.backs
  | .cnd _ a b => a.backs ++ b.backs
  | .blk _ b => b.backs
  | .loop b => b.backs
  | .rfn f ag sz _ _ _ _ asg body _ => (f, ag, sz) :: (asg.backs ++ body.backs)
  | _ => []

/-- the slice behind the closure of slices.Backward -/
def backOf (f : Nat) (d : D) (K : Nat → List D → Prop) : Prop :=
  match d with
  | .clo f' [.pt (.sl m cs :: _)] => f' = f ∧ K m cs
  | _ => False

/-- the pure meaning: what must hold so that Q holds behind -/
def wpC (C : FuncId → List D → D → Prop) : PC → (Ex → Env → Prop) → Env → Prop
  | .skip, Q, E => Q .nrm E
  | .bad, _, _ => False
  | .seq a b, Q, E => wpC C a (fun ex E' => match ex with
    | .nrm => wpC C b Q E'
    | .exit id => Q (.exit id) E'
    | .ret => Q .ret E') E
  | .reg ops live, Q, E => wpE C ops (fun E' => Q .nrm (keepE live E')) E
  | .cnd c t e, Q, E => match c.ev (lk E) with
    | .bool b => (b = true → wpC C t Q E) ∧ (b = false → wpC C e Q E)
    | _ => False
  | .blk id b, Q, E => wpC C b (fun ex E' => match ex with
    | .nrm => Q .nrm E'
    | .exit id' => if id' = id then Q .nrm E' else Q (.exit id') E'
    | .ret => Q .ret E') E
  | .loop b, Q, E => ∃ (I : Env → Prop) (m : Env → Nat), I E ∧ ∀ E, I E → wpC C b (fun ex E' => match ex with
    | .nrm => I E' ∧ m E' < m E
    | .exit id => Q (.exit id) E'
    | .ret => Q .ret E') E
  | .exit id, Q, E => Q (.exit id) E
  | .ret, Q, E => Q .ret E
  | .rfn f ag sz gs k1 k2 _ asg body out, Q, E => backOf f (lk E gs) fun m cs => m * sz = cs.length ∧
      ∃ I : Nat → Env → Prop, I 0 (keepE out E) ∧ (∀ k E1, I k E1 → lk E1 gs = lk E gs) ∧ (∀ E1, I m E1 → Q .nrm E1) ∧
        ∀ k E1, k < m → I k E1 → ∃ d, ofCells ag sz (cs.drop ((m - 1 - k) * sz)) = some d ∧ d.flat0 = true ∧
          wpC C asg (fun ex E2 => match ex with
            | .nrm => wpC C body (fun ex E3 => match ex with
              | .nrm => I (k + 1) (keepE out E3)
              | _ => False) E2
            | _ => False) (sets E1 [(k1, .int .i64 ((m - 1 - k : Nat) : Int)), (k2, d)])
  | .cus _ T, Q, E => T.f Q E

/-- the pieces that are shown by hand -/
def cusL : Code → PC → List (Code × List Nat × PT)
  | c, .cus ws T => [(c, ws, T)]
  | .seq a b, .seq x y => cusL a x ++ cusL b y
  | .cond _ t e, .cnd _ a b => cusL t a ++ cusL e b
  | .block _ b, .blk _ x => cusL b x
  | .loop b, .loop x => cusL b x
  | .rangeFunc _ _ a c, .rfn _ _ _ _ _ _ _ asg body _ => cusL a asg ++ cusL c body
  | _, _ => []

def PC.noCus : PC → Bool
  | .cus _ _ => false
  | .seq a b => a.noCus && b.noCus
  | .cnd _ a b => a.noCus && b.noCus
  | .blk _ b => b.noCus
  | .loop b => b.noCus
  | .rfn _ _ _ _ _ _ _ asg body _ => asg.noCus && body.noCus
  | _ => true

def PC.noTop : PC → Bool
  | .cus _ T => !T.top
  | .seq a b => a.noTop && b.noTop
  | .cnd _ a b => a.noTop && b.noTop
  | .blk _ b => b.noTop
  | .loop b => b.noTop
  | .rfn _ _ _ _ _ _ _ asg body _ => asg.noTop && body.noTop
  | _ => true

theorem cusL_nil : ∀ (c : Code) (pc : PC), pc.noCus = true → cusL c pc = [] := by
  intro c
  induction c with
  | seq a b iha ihb => intro pc h; cases pc <;> simp_all [PC.noCus, cusL]
  | cond x t e iht ihe => intro pc h; cases pc <;> simp_all [PC.noCus, cusL]
  | block id b ih => intro pc h; cases pc <;> simp_all [PC.noCus, cusL]
  | loop b ih => intro pc h; cases pc <;> simp_all [PC.noCus, cusL]
  | rangeFunc g ps a b iha ihb => intro pc h; cases pc <;> simp_all [PC.noCus, cusL]
  | _ => intro pc h; cases pc <;> simp_all [PC.noCus, cusL]

def chkC (P : Program) (ok : Nat → Bool) : Code → PC → Bool
  | .skip, .skip => true
  | _, .bad => true
  | _, .cus ws _ => ws.all ok
  | .seq a b, .seq x y => chkC P ok a x && chkC P ok b y
  | .region _ ops draw, .reg ps _ => chkList P ok ops ops.toList ps && (if draw then chkDraw ops ps && P.follows .mixedOrders else safeOrd [] ps)
  | .cond c t e, .cnd x a b => chkX c x && chkC P ok t a && chkC P ok e b
  | .block id b, .blk id' x => id == id' && chkC P ok b x
  | .loop b, .loop x => chkC P ok b x
  | .exit id, .exit id' => id == id'
  | .ret, .ret => true
  | .rangeFunc (.tmp g) ps a c, .rfn f _ _ gs k1 k2 rs asg body out => g == gs && ps == #[k1, k2] && hasBody P f && rs.contains k1 && rs.contains k2 && k1 != k2 && rs.all ok && !rs.contains gs &&
      out.all (fun t => !rs.contains t) && (asg.backs.isEmpty && asg.noTop) && (body.backs.isEmpty && body.noTop) && chkC P (fun d => rs.contains d && ok d) a asg && chkC P (fun d => rs.contains d && ok d) c body
  | _, _ => false

def Ex.to : Ex → Exit
  | .nrm => .normal
  | .exit id => .exit id
  | .ret => .ret

theorem exists_least {p : Nat → Prop} (h : ∃ k, p k) : ∃ k, p k ∧ ∀ m, p m → k ≤ m := by
  obtain ⟨k, hk⟩ := h
  induction k using Nat.strongRecOn with
  | _ k ih =>
    by_cases hlt : ∃ m, m < k ∧ p m
    · obtain ⟨m, hm, hp⟩ := hlt
      exact ih m hm hp
    · exact ⟨k, hk, fun m hm => Nat.le_of_not_lt fun h => hlt ⟨m, h, hm⟩⟩

/-- the region's end: what is no longer needed is forgotten -/
theorem Good.keep {live : List Nat} {E : Env} (h : Good P n S0 w0 (lk E) tm w) : Good P n S0 w0 (lk (keepE live E)) tm w := by
  obtain ⟨S, O, gv, h⟩ := h
  have h1 := h.dropP (fun t => !live.contains t || (aliasOf (lk E t)).isSome) (fun t s h1 _ => by simp [h1])
  have e : lk (keepE live E) = fun t => if (!live.contains t || (aliasOf (lk E t)).isSome) = true then .un else lk E t := by
    funext t
    rw [lk_keepE]
    by_cases h1 : t ∈ live
    · cases hq : lk E t <;> simp [D.clean, aliasOf, h1]
    · simp [h1]
  rw [e]
  exact ⟨S, _, _, h1⟩

theorem keepE_noAlias (live : List Nat) (E : Env) : ∀ t, aliasOf (lk (keepE live E) t) = none := by
  intro t
  rw [lk_keepE]
  split
  · cases lk E t <;> rfl
  · rfl

theorem SR.blockOf {f : Nat → Value} {t : Nat} {d : D} {b : Nat} (h : SR P S w O f t d) (hO : O t = some b) : ∃ arr e fr, w.heap[b]? = some (.cells arr e fr) := by
  cases d <;> simp only [SR, OwnR] at h
  all_goals first
    | (rw [h] at hO; cases hO; done)
    | (rw [h.1] at hO; cases hO; done)
    | skip
  · rcases h with ⟨h, _⟩ | ⟨b', cap, arr, h1, h2, h3, _⟩
    · rw [h] at hO; cases hO
    · rw [h1] at hO; cases hO; exact ⟨_, _, _, h3⟩
  · obtain ⟨b', arr, e, h1, h2, h3, _⟩ := h
    rw [h1] at hO; cases hO; exact ⟨_, _, _, h3⟩
  · obtain ⟨b', e, h1, _, h3, _⟩ := h
    rw [h1] at hO; cases hO; exact ⟨_, _, _, h3⟩
  · obtain ⟨b', arr, e, h1, _, h3, _⟩ := h
    rw [h1] at hO; cases hO; exact ⟨_, _, _, h3⟩

/-- no cell lies in a block that is no cells -/
theorem cell_putObj {D b j : Nat} {o o' : Obj} {w : World} (hD : w.heap[D]? = some o) (ho : o.isCells = false) (ho' : o'.isCells = false) : (w.putObj D o').cell? ⟨b, j, none⟩ = w.cell? ⟨b, j, none⟩ := by
  have hlt : D < w.heap.size := (Array.getElem?_eq_some_iff.1 hD).1
  by_cases e : b = D
  · subst e
    have n1 : w.cell? ⟨b, j, none⟩ = none := by
      cases hq : w.cell? ⟨b, j, none⟩ with
      | none => rfl
      | some v => obtain ⟨x, hx, hc⟩ := cells_of_cell hq; simp only at hx; rw [hD] at hx; cases hx; rw [ho] at hc; cases hc
    have n2 : (w.putObj b o').cell? ⟨b, j, none⟩ = none := by
      cases hq : (w.putObj b o').cell? ⟨b, j, none⟩ with
      | none => rfl
      | some v => obtain ⟨x, hx, hc⟩ := cells_of_cell hq; simp only at hx; rw [World.putObj_heap_same hlt] at hx; cases hx; rw [ho'] at hc; cases hc
    rw [n1, n2]
  · exact cell_of_heap (World.putObj_heap_other e)

/-- a block of this call that is no cells is turned: the reading stands -/
theorem Good.putObj {D : Nat} {o o' : Obj} (hg : Good P n S0 w0 g tm w) (hD : w.heap[D]? = some o) (ho : o.isCells = false) (ho' : o'.isCells = false) (h0 : w0.heap.size ≤ D) :
    Good P { n with wk := w.putObj D o' } S0 w0 g tm (w.putObj D o') := by
  obtain ⟨S, O, gv, h⟩ := hg
  have hlt : D < w.heap.size := (Array.getElem?_eq_some_iff.1 hD).1
  have hcell : ∀ b j, S b j → (w.putObj D o').cell? ⟨b, j, none⟩ = w.cell? ⟨b, j, none⟩ := fun b j _ => cell_putObj hD ho ho'
  refine ⟨S, O, gv, ⟨h.size, ?_, h.sub, h.sup, fun b j x => by rw [World.putObj_size]; exact h.ex b j x, h.inj, fun t b x => by rw [World.putObj_size]; exact h.base t b x, fun t => ?_, h.fix, fun _ _ z _ => z, h.nb, h.gh, fun b o x => ⟨(h.fz b o x).1, rfl⟩, fun b x => ⟨(h.fb b x).1, (h.fb b x).2.1, by rw [World.putObj_size]; exact (h.fb b x).2.2.1, rfl⟩⟩⟩
  · exact h.below.trans ((Below.refl _ w).grown (grownBy_putObj' w D o') h.below.size (fun k e => by cases e; exact h0))
  · refine (h.slot t).grow (fun _ _ x => x) (fun _ _ _ x => x) hcell (fun b ht => World.putObj_heap_other (fun e => ?_))
    subst e
    obtain ⟨arr, ty, fr, hx⟩ := (h.slot t).blockOf ht
    rw [hD] at hx; cases hx; cases ho

/-- the same, of a block that is younger than what is to stand -/
theorem Good.putObjK {D : Nat} {o o' : Obj} (hg : Good P n S0 w0 g tm w) (hD : w.heap[D]? = some o) (ho : o.isCells = false) (ho' : o'.isCells = false) (h0 : w0.heap.size ≤ D) (hk : n.wk.heap.size ≤ D) :
    Good P n S0 w0 g tm (w.putObj D o') := by
  obtain ⟨S, O, gv, h⟩ := hg.putObj hD ho ho' h0
  obtain ⟨S1, O1, gv1, h1⟩ := hg
  refine ⟨S, O, gv, ⟨h.size, h.below, h.sub, h.sup, h.ex, h.inj, h.base, h.slot, h.fix, fun k q hq hqc => ?_, h.nb, h.gh, fun b o x => ⟨(h.fz b o x).1, (cell_putObj hD ho ho').trans (h1.fz b o x).2⟩, fun b x => ⟨(h.fb b x).1, (h.fb b x).2.1, (h.fb b x).2.2.1, (World.putObj_heap_other (fun e => by
    subst e
    have h2 := (h1.fb b x).2.2.2
    rw [hD] at h2
    have h3 : b < n.wk.heap.size := (Array.getElem?_eq_some_iff.1 h2.symm).1
    omega)).trans (h1.fb b x).2.2.2⟩⟩⟩
  refine (World.putObj_heap_other (fun e => ?_)).trans (h1.keep k q hq hqc)
  have hlt : k < n.wk.heap.size := (Array.getElem?_eq_some_iff.1 hq).1
  omega

/-- what is to stand may be chosen anew -/
theorem Good.rewk (hg : Good P n S0 w0 g tm w) : Good P { n with wk := w } S0 w0 g tm w := by
  obtain ⟨S, O, gv, h⟩ := hg
  exact ⟨S, O, gv, ⟨h.size, h.below, h.sub, h.sup, h.ex, h.inj, h.base, h.slot, h.fix, fun _ _ x _ => x, h.nb, h.gh, fun b o x => ⟨(h.fz b o x).1, rfl⟩, fun b x => ⟨(h.fb b x).1, (h.fb b x).2.1, (h.fb b x).2.2.1, rfl⟩⟩⟩

/-- a round's end: the round's slots are gone -/
theorem Good.retm {n' : Nz} {tm' : Array Value} (hg : Good P n' S0 w0 g tm' w) (hs : tm.size = n.n) (hfix : ∀ t, n.ok t = false → tm.getD t undef = n.tm0.getD t undef)
    (hk : ∀ (k : Nat) (o : Obj), n.wk.heap[k]? = some o → o.isCells = false → w.heap[k]? = some o) (hnb : n.n ≤ GB) (hna : ∀ t, aliasOf (g t) = none) (h0 : n'.tm0 = tm) (hun : ∀ t, n'.ok t = true → g t = .un)
    (hfz : ∀ b o, n.fz b o → n'.fz b o ∧ n'.wk.cell? ⟨b, o, none⟩ = n.wk.cell? ⟨b, o, none⟩) (hfb : ∀ b, n.fb b → n'.fb b ∧ n'.wk.heap[b]? = n.wk.heap[b]?) : Good P n S0 w0 g tm w := by
  obtain ⟨S, O, gv, h⟩ := hg
  refine ⟨S, O, gv, ⟨hs, h.below, h.sub, h.sup, h.ex, h.inj, h.base, fun t => ?_, hfix, hk, hnb, h.gh, fun b o x => ⟨(h.fz b o (hfz b o x).1).1, (h.fz b o (hfz b o x).1).2.trans (hfz b o x).2⟩,
    fun b x => ⟨(h.fb b (hfb b x).1).1, (h.fb b (hfb b x).1).2.1, (h.fb b (hfb b x).1).2.2.1, (h.fb b (hfb b x).1).2.2.2.trans (hfb b x).2⟩⟩⟩
  have hst := h.slot t
  cases hok : n'.ok t with
  | true => rw [hun t hok] at hst ⊢; exact hst
  | false =>
    have e : tmOf gv tm' t = tmOf gv tm t := by
      have := h.fix t hok
      simp only [h0] at this
      simp only [tmOf, this]
    have ha := hna t
    cases hq : g t <;> rw [hq] at hst ha <;> simp only [SR, aliasOf] at hst ha ⊢ <;> first
      | (cases ha; done)
      | (obtain ⟨b, ty, h1, h2, h3, h4, h5, h6⟩ := hst; exact ⟨b, ty, h1, by rw [← e]; exact h2, by rw [tmOf_ge h5] at h3 ⊢; exact h3, h4, h5, h6⟩)
      | (obtain ⟨b, arr, ty, h1, h2, h3, h4, h5, h6⟩ := hst; exact ⟨b, arr, ty, h1, by rw [← e]; exact h2, h3, h4, h5, h6.congr fun i _ => by rw [tmOf_ge (GF_ge _ _), tmOf_ge (GF_ge _ _)]⟩)
      | (obtain ⟨h1, vs, h2, h4, h3⟩ := hst; exact ⟨h1, vs, by rw [← e]; exact h2, h4, h3.congr fun i _ => by rw [tmOf_ge (GF_ge _ _), tmOf_ge (GF_ge _ _)]⟩)
      | (rw [← e]; exact hst)
      | exact hst

/-- the marks of ranges over functions that are over: nothing is deferred -/
def mark (D : Nat) : Deferred := { target := .collected D, args := #[] }
def MarksOk (B : Nat) (n : Nz) (df : List Deferred) : Prop := ∃ Ds : List Nat, Ds.Nodup ∧ df = Ds.map mark ∧ ∀ D ∈ Ds, B ≤ D ∧ n.wk.heap[D]? = some (.deferred (some []))

/-- which frames may follow one another: within a round, the same -/
def Adm (B : Nat) (rd : Option Nat) (okf : Nat → Bool) (n0 : Nz) (df0 : List Deferred) (n : Nz) (df : List Deferred) : Prop :=
  (∀ d, okf d = true → n.Has d) ∧ (rd = none → MarksOk B n df) ∧ (rd.isSome = true → n = n0 ∧ df = df0)

/-- the iterators that are ranged over have their contracts; there is no range within a round -/
def BackOk (P : Program) (rd : Option Nat) (pc : PC) : Prop := pc.backs = [] ∨ (rd = none ∧ ∀ q ∈ pc.backs, IsBack P q.1 q.2.1 q.2.2)

theorem BackOk.left {rd : Option Nat} {pc : PC} {l r : List (Nat × Bool × Nat)} (h : BackOk P rd pc) {x : PC} (e : pc.backs = l ++ r) (hx : x.backs = l) : BackOk P rd x := by
  rcases h with h | ⟨h1, h2⟩
  · rw [e] at h; exact .inl (by rw [hx]; exact (List.append_eq_nil_iff.1 h).1)
  · exact .inr ⟨h1, fun q hq => h2 q (by rw [e]; rw [hx] at hq; exact List.mem_append_left _ hq)⟩
theorem BackOk.right {rd : Option Nat} {pc : PC} {l r : List (Nat × Bool × Nat)} (h : BackOk P rd pc) {x : PC} (e : pc.backs = l ++ r) (hx : x.backs = r) : BackOk P rd x := by
  rcases h with h | ⟨h1, h2⟩
  · rw [e] at h; exact .inl (by rw [hx]; exact (List.append_eq_nil_iff.1 h).2)
  · exact .inr ⟨h1, fun q hq => h2 q (by rw [e]; rw [hx] at hq; exact List.mem_append_right _ hq)⟩

variable (hL : ∀ w w', L w → Below w.heap.size w w' → L w')
include hL

omit hL in
/-- a piece shown by hand: it may be taken wherever its meaning holds -/
def CusOk (P : Program) (L : World → Prop) (c : Code) (ws : List Nat) (T : PT) : Prop :=
  ∀ (nn : Nat) (rd : Option Nat) (okf : Nat → Bool) (S0 : Nat → Nat → Prop) (w0 : World) (n0 : Nz) (df0 : List Deferred) (M : Ex → Env → Prop) (Qc : Exit → Act → World → Prop) (E : Env) (tm : Array Value) (w : World) (n : Nz) (df : List Deferred),
    (T.top = true → rd = none) → (∀ t ∈ ws, okf t = true) → L w0 → Adm w0.heap.size rd okf n0 df0 n df → (∀ t, aliasOf (lk E t) = none) → Good P n S0 w0 (lk E) tm w → T.f M E →
    (∀ ex E' tm' w' n' df', M ex E' → (∀ t, aliasOf (lk E' t) = none) → Adm w0.heap.size rd okf n0 df0 n' df' → Good P n' S0 w0 (lk E') tm' w' → Qc ex.to ⟨tm', df'⟩ w') → c.wpIn (WF rd) nn P Qc ⟨tm, df⟩ w

omit hL in
theorem cus_of {nn : Nat} {rd : Option Nat} {okf : Nat → Bool} {n0 : Nz} {df0 : List Deferred} {c : Code} {ws : List Nat} {T : PT} {Q : Ex → Env → Prop} {Qc : Exit → Act → World → Prop} {E : Env} {df : List Deferred}
    (hT : rd = none ∨ (PC.cus ws T).noTop = true) (hC : ∀ q ∈ cusL c (.cus ws T), CusOk P L q.1 q.2.1 q.2.2) (hws : ws.all okf = true) (hL0 : L w0) (had : Adm w0.heap.size rd okf n0 df0 n df) (hna : ∀ t, aliasOf (lk E t) = none) (hg : Good P n S0 w0 (lk E) tm w) (hwp : wpC (Con P L) (.cus ws T) Q E)
    (hQ : ∀ ex E' tm' w' n' df', Q ex E' → (∀ t, aliasOf (lk E' t) = none) → Adm w0.heap.size rd okf n0 df0 n' df' → Good P n' S0 w0 (lk E') tm' w' → Qc ex.to ⟨tm', df'⟩ w') : c.wpIn (WF rd) nn P Qc ⟨tm, df⟩ w :=
  hC (c, ws, T) (by cases c <;> exact List.mem_singleton_self _) nn rd okf S0 w0 n0 df0 _ Qc E tm w n df (fun h => hT.resolve_right (by have h2 : T.top = true := h; simp [PC.noTop, h2])) (fun t ht => List.all_eq_true.1 hws t ht) hL0 had hna hg hwp hQ

theorem wpC_sound {nn : Nat} (hL0 : L w0) : ∀ (c : Code) {rd : Option Nat} {okf : Nat → Bool} {n0 : Nz} {df0 : List Deferred} (pc : PC) (_hB : BackOk P rd pc) (_hT : rd = none ∨ pc.noTop = true) (_hC : ∀ q ∈ cusL c pc, CusOk P L q.1 q.2.1 q.2.2) (Q : Ex → Env → Prop) (Qc : Exit → Act → World → Prop) (E : Env) (tm : Array Value) (w : World) (n : Nz) (df : List Deferred),
    Adm w0.heap.size rd okf n0 df0 n df → chkC P okf c pc = true →
    (∀ t, aliasOf (lk E t) = none) → Good P n S0 w0 (lk E) tm w → wpC (Con P L) pc Q E →
    (∀ ex E' tm' w' n' df', Q ex E' → (∀ t, aliasOf (lk E' t) = none) → Adm w0.heap.size rd okf n0 df0 n' df' → Good P n' S0 w0 (lk E') tm' w' → Qc ex.to ⟨tm', df'⟩ w') → c.wpIn (WF rd) nn P Qc ⟨tm, df⟩ w := by
  intro c
  induction c with
  | skip =>
    intro rd okf n0 df0 pc hB hT hC Q Qc E tm w n df had hc hna hg hwp hQ
    cases pc <;> simp only [chkC] at hc <;> (try cases hc; done) <;> (try (exact cus_of hT hC hc hL0 had hna hg hwp hQ))
    · exact wpIn_skip (hQ .nrm E tm w n df hwp hna had hg)
    · exact hwp.elim
  | seq a b iha ihb =>
    intro rd okf n0 df0 pc hB hT hC Q Qc E tm w n df had hc hna hg hwp hQ
    cases pc <;> simp only [chkC] at hc <;> (try cases hc; done) <;> (try (exact cus_of hT hC hc hL0 had hna hg hwp hQ))
    · exact hwp.elim
    · rename_i x y
      simp only [Bool.and_eq_true] at hc
      refine wpIn_seq (iha x (hB.left rfl rfl) (hT.imp id fun h => by simp only [PC.noTop, Bool.and_eq_true] at h; exact h.1) (fun q hq => hC q (List.mem_append_left _ hq)) _ _ E tm w n df had hc.1 hna hg hwp ?_)
      intro ex E' tm' w' n' df' hq hna' had' hg'
      cases ex with
      | nrm => exact ihb y (hB.right rfl rfl) (hT.imp id fun h => by simp only [PC.noTop, Bool.and_eq_true] at h; exact h.2) (fun q hq => hC q (List.mem_append_right _ hq)) Q Qc E' tm' w' n' df' had' hc.2 hna' hg' hq hQ
      | exit id => exact hQ (.exit id) E' tm' w' n' df' hq hna' had' hg'
      | ret => exact hQ .ret E' tm' w' n' df' hq hna' had' hg'
  | region id ops draw =>
    intro rd okf n0 df0 pc hB hT hC Q Qc E tm w n df had hc hna hg hwp hQ
    cases pc <;> simp only [chkC] at hc <;> (try cases hc; done) <;> (try (exact cus_of hT hC hc hL0 had hna hg hwp hQ))
    · exact hwp.elim
    · rename_i ps live
      simp only [Bool.and_eq_true] at hc
      obtain ⟨hc1, hc2⟩ := hc
      obtain ⟨E', hseq, hK⟩ := wpE_seq hwp
      have hali : AliasIn [] (lk E) := fun t s h => by rw [hna t] at h; cases h
      have hfin : ∀ tm' w', Good P n S0 w0 (lk E') tm' w' → Qc .normal ⟨tm', df⟩ w' := fun tm' w' hg' => hQ .nrm _ tm' w' n df hK (keepE_noAlias live E') had hg'.keep
      cases draw with
      | false =>
        simp only [Bool.false_eq_true, if_false] at hc2
        exact wpIn_region_list (wpList_sound hL had.1 hL0 hfin ops.toList ps [] (lk E) tm w hc1 hc2 hali hg hseq)
      | true =>
        simp only [if_true, Bool.and_eq_true] at hc2
        obtain ⟨hlen, _⟩ := chkList_get hc1
        have hrem : ∀ (ps : List PO) (k m : Nat), k + ps.length ≤ m → remFrom (Array.replicate m false) k ps = ps := by
          intro ps
          induction ps with
          | nil => intro k m _; rfl
          | cons p ps ih =>
            intro k m h
            simp only [List.length_cons] at h
            simp only [remFrom]
            rw [if_neg (by simp [Array.getD_eq_getD_getElem?, show k < m by omega]), ih (k + 1) m (by omega)]
        have hrem0 := hrem ps 0 ops.size (by rw [← hlen]; simp)
        obtain ⟨S, O, gv, hI⟩ := hg
        have hg' : Good P n S0 w0 (lk E) tm { w with drawn := w.drawn + 1 } := ⟨S, O, gv, hI.ext hI.extRefl.drew⟩
        exact wpIn_region_any hc2.2 (wpAny_sound2 hL had.1 hL0 hfin hc1 hc2.1 ops.size (Array.replicate ops.size false) [] (lk E) tm _ (by simp) (by rw [hrem0, ← hlen]; simp) (fun q hq => by simp at hq)
          (fun j hj => by
            simp [Array.getD_eq_getD_getElem?, Array.getElem?_replicate] at hj
            split at hj <;> simp at hj) hali hg' (by rw [hrem0]; exact hseq))
  | cond c t e iht ihe =>
    intro rd okf n0 df0 pc hB hT hC Q Qc E tm w n df had hc hna hg hwp hQ
    cases pc <;> simp only [chkC] at hc <;> (try cases hc; done) <;> (try (exact cus_of hT hC hc hL0 had hna hg hwp hQ))
    · exact hwp.elim
    · rename_i x a b
      simp only [Bool.and_eq_true] at hc
      simp only [wpC] at hwp
      split at hwp <;> try (exact hwp.elim)
      rename_i bb hb
      obtain ⟨S, O, gv, hI⟩ := id hg
      have hv := hI.boolOf hc.1.1 hb
      refine wpIn_cond_split (t := bb) (by rw [eval_eq]; exact hv) (fun h => ?_) (fun h => ?_)
      · exact iht a (hB.left rfl rfl) (hT.imp id fun h => by simp only [PC.noTop, Bool.and_eq_true] at h; exact h.1) (fun q hq => hC q (List.mem_append_left _ hq)) Q Qc E tm w n df had hc.1.2 hna hg (hwp.1 h) hQ
      · exact ihe b (hB.right rfl rfl) (hT.imp id fun h => by simp only [PC.noTop, Bool.and_eq_true] at h; exact h.2) (fun q hq => hC q (List.mem_append_right _ hq)) Q Qc E tm w n df had hc.2 hna hg (hwp.2 h) hQ
  | block id b ih =>
    intro rd okf n0 df0 pc hB hT hC Q Qc E tm w n df had hc hna hg hwp hQ
    cases pc <;> simp only [chkC] at hc <;> (try cases hc; done) <;> (try (exact cus_of hT hC hc hL0 had hna hg hwp hQ))
    · exact hwp.elim
    · rename_i id' x
      simp only [Bool.and_eq_true, beq_iff_eq] at hc
      obtain ⟨rfl, hc⟩ := hc
      refine wpIn_block (ih x hB hT hC _ _ E tm w n df had hc hna hg hwp ?_)
      intro ex E' tm' w' n' df' hq hna' had' hg'
      cases ex with
      | nrm => exact hQ .nrm E' tm' w' n' df' hq hna' had' hg'
      | exit i =>
        simp only [Ex.to, Exit.inBlock]
        simp only at hq
        split
        · rename_i e; rw [if_pos e] at hq; exact hQ .nrm E' tm' w' n' df' hq hna' had' hg'
        · rename_i e; rw [if_neg e] at hq; exact hQ (.exit i) E' tm' w' n' df' hq hna' had' hg'
      | ret => exact hQ .ret E' tm' w' n' df' hq hna' had' hg'
  | loop b ih =>
    intro rd okf n0 df0 pc hB hT hC Q Qc E tm w n df had hc hna hg hwp hQ
    cases pc <;> simp only [chkC] at hc <;> (try cases hc; done) <;> (try (exact cus_of hT hC hc hL0 had hna hg hwp hQ))
    · exact hwp.elim
    · rename_i x
      obtain ⟨I, m, hI0, hround⟩ := hwp
      let R : Nat → Act → World → Prop := fun k a w => ∃ E, m E = k ∧ I E ∧ (∀ t, aliasOf (lk E t) = none) ∧ ∃ n', Adm w0.heap.size rd okf n0 df0 n' a.defers ∧ Good P n' S0 w0 (lk E) a.tmps w
      let mu : Act → World → Nat := fun a w => Classical.epsilon fun k => R k a w ∧ ∀ k', R k' a w → k ≤ k'
      have hmu : ∀ a w, (∃ k, R k a w) → R (mu a w) a w ∧ ∀ k', R k' a w → mu a w ≤ k' := fun a w h => Classical.epsilon_spec (p := fun k => R k a w ∧ ∀ k', R k' a w → k ≤ k') (exists_least h)
      refine wpIn_loop (fun a w => ∃ k, R k a w) mu ⟨m E, E, rfl, hI0, hna, n, had, hg⟩ ?_
      intro a w hI
      obtain ⟨⟨E1, e1, e2, e3, n1, e4, e5⟩, _⟩ := hmu a w hI
      obtain ⟨tma, dfa⟩ := a
      simp only at e4 e5
      refine ih x hB hT hC _ _ E1 tma w n1 dfa e4 hc e3 e5 (hround E1 e2) ?_
      intro ex E' tm' w' n' df' hq hna' had' hg'
      cases ex with
      | nrm =>
        have h2 : ∃ k, R k ⟨tm', df'⟩ w' := ⟨m E', E', rfl, hq.1, hna', n', had', hg'⟩
        refine ⟨h2, ?_⟩
        have h3 := (hmu ⟨tm', df'⟩ w' h2).2 (m E') ⟨E', rfl, hq.1, hna', n', had', hg'⟩
        have h4 := hq.2
        rw [e1] at h4
        exact Nat.lt_of_le_of_lt h3 h4
      | exit id => exact hQ (.exit id) E' tm' w' n' df' hq hna' had' hg'
      | ret => exact hQ .ret E' tm' w' n' df' hq hna' had' hg'
  | exit id =>
    intro rd okf n0 df0 pc hB hT hC Q Qc E tm w n df had hc hna hg hwp hQ
    cases pc <;> simp only [chkC] at hc <;> (try cases hc; done) <;> (try (exact cus_of hT hC hc hL0 had hna hg hwp hQ))
    · exact hwp.elim
    · simp only [beq_iff_eq] at hc
      subst hc
      exact wpIn_exit (hQ (.exit _) E tm w n df hwp hna had hg)
  | ret =>
    intro rd okf n0 df0 pc hB hT hC Q Qc E tm w n df had hc hna hg hwp hQ
    cases pc <;> simp only [chkC] at hc <;> (try cases hc; done) <;> (try (exact cus_of hT hC hc hL0 had hna hg hwp hQ))
    · exact hwp.elim
    · exact wpIn_ret (hQ .ret E tm w n df hwp hna had hg)
  | rangeFunc g ps assign body iha ihb =>
    intro rd okf n0 df0 pc hB hT hC Q Qc E tm w n df had hc hna hg hwp hQ
    cases pc with
    | bad => exact hwp.elim
    | cus ws T => exact cus_of hT hC hc hL0 had hna hg hwp hQ
    | rfn f ag sz gs k1 k2 rs asg bd out =>
      cases g with
      | tmp g =>
        simp only [chkC, Bool.and_eq_true, beq_iff_eq, bne_iff_ne, ne_eq, Bool.not_eq_true', List.isEmpty_iff] at hc
        obtain ⟨⟨⟨⟨⟨⟨⟨⟨⟨⟨⟨⟨rfl, rfl⟩, hbody⟩, hr1⟩, hr2⟩, hk12⟩, hrok⟩, hrg⟩, hout⟩, hna1⟩, hna2⟩, hc1⟩, hc2⟩ := hc
        have hB2 : rd = none ∧ IsBack P f ag sz := by
          rcases hB with h | ⟨h1, h2⟩
          · simp [PC.backs] at h
          · exact ⟨h1, h2 _ (List.mem_cons_self ..)⟩
        obtain ⟨rfl, hback⟩ := hB2
        simp only [wpC] at hwp
        unfold backOf at hwp
        split at hwp <;> try (exact hwp.elim)
        rename_i f' m cs r hgs
        obtain ⟨rfl, hm, I, hI0, hIg, hIm, hround⟩ := hwp
        have hoks : ∀ t, rs.contains t = true → okf t = true := fun t ht => List.all_eq_true.1 hrok t (by simpa using ht)
        have houts : ∀ t, t ∈ out → rs.contains t = false := fun t ht => by have := List.all_eq_true.1 hout t ht; simpa using this
        -- the closure and its pointer
        obtain ⟨S1, O1, gv1, hI1⟩ := id hg
        have hrep := hI1.rep (t := g) (by rw [hgs]; rfl)
        rw [hgs] at hrep
        obtain ⟨Bs, bo, htmg⟩ : ∃ Bs bo, tm.getD g undef = .func (.func f') #[] #[.pointer (some ⟨Bs, bo, none⟩)] := by
          generalize tm.getD g undef = v at hrep
          cases hrep with
          | clo _ _ vs hl h =>
            match vs, hl with
            | [v], _ =>
              have := h 0 _ v rfl rfl
              cases this
              exact ⟨_, _, rfl⟩
        have hw0 : w0.heap.size ≤ w.heap.size := hI1.below.size
        let IW : Nat → World → Prop := fun k W => ∃ E1, I k E1 ∧ (∀ t, rs.contains t = true → lk E1 t = .un) ∧ (∀ t, aliasOf (lk E1 t) = none) ∧ Good P { n with wk := w } S0 w0 (lk E1) tm W
        have hunk : ∀ E' : Env, ∀ t, rs.contains t = true → lk (keepE out E') t = .un := fun E' t ht => by
          rw [lk_keepE, if_neg]
          intro hm; rw [houts t hm] at ht; cases ht
        refine wpIn_back (a := ⟨tm, df⟩) hback hm (by rw [eval_eq]; exact htmg) hbody IW ?_ ?_ ?_ ⟨_, hI0, hunk E, keepE_noAlias out E, hg.keep.rewk⟩ ?_ ?_
        · rintro k W j o o' ⟨E1, e1, e2, e3, e4⟩ hj ho hc1 hc2
          exact ⟨E1, e1, e2, e3, e4.putObjK ho hc1 hc2 (by omega) hj⟩
        · rintro o W ⟨E1, e1, e2, e3, S, O, gv, e4⟩
          exact ⟨E1, e1, e2, e3, S, O, gv, e4.ext (e4.extRefl.alloc e4.below.size o)⟩
        · rintro k W ⟨E1, e1, e2, e3, S, O, gv, e4⟩
          have h1 := hIg k E1 e1
          have h2 := e4.rep (t := g) (by rw [h1, hgs]; rfl)
          rw [h1, hgs, htmg] at h2
          cases h2 with
          | clo _ _ vs hl h => exact ⟨S, r, h 0 _ _ rfl rfl⟩
        · -- a round
          rintro l k W S d x hkm ⟨E1, e1, e2, e3, e4⟩ hof hx hl ⟨ol, hol, holc⟩
          obtain ⟨d', hd', hflat, hw⟩ := hround k E1 hkm e1
          rw [hof] at hd'; cases hd'
          let okr : Nat → Bool := fun t => rs.contains t && okf t
          let n2 : Nz := { n := n.n, ok := okr, tm0 := tm, wk := W, fz := n.fz, fb := n.fb }
          have hhas : ∀ t, okr t = true → n2.Has t := fun t ht => ⟨(had.1 t (by simp only [okr, Bool.and_eq_true] at ht; exact ht.2)).1, ht⟩
          have hcon : ∀ t, rs.contains t = true → okr t = true := fun t ht => by simp only [okr, Bool.and_eq_true]; exact ⟨ht, hoks t ht⟩
          obtain ⟨S2, O2, gv2, hI2⟩ := e4
          have hI3 : Inv P { n2 with gv := gv2 } S0 w0 S2 O2 (lk E1) tm W := ⟨hI2.size, hI2.below, hI2.sub, hI2.sup, hI2.ex, hI2.inj, hI2.base, hI2.slot, fun _ _ => rfl, fun _ _ x _ => x, hI2.nb, hI2.gh, fun b o x => ⟨(hI2.fz b o x).1, rfl⟩, fun b x => ⟨(hI2.fb b x).1, (hI2.fb b x).2.1, (hI2.fb b x).2.2.1, rfl⟩⟩
          have hI4 := hI3.setPure (d := .int .i64 ((m - 1 - k : Nat) : Int)) (v := .int .i64 ((m - 1 - k : Nat) : Int)) (dst := k1) hI3.extRefl (fun _ _ x => x) (fun _ _ x => .inl x) (.int _ _) (hhas _ (hcon _ hr1)) (fun t' s h => by rw [e3 t'] at h; cases h)
          have hna4 : ∀ t, aliasOf (upd (lk E1) k1 (.int .i64 ((m - 1 - k : Nat) : Int)) t) = none := fun t => by
            unfold upd; split
            · rfl
            · exact e3 t
          have hI5 := hI4.setPure (d := d) (v := x) (dst := k2) hI4.extRefl (fun _ _ x => x) (fun _ _ x => .inl x) (hx.ofFlat0 hflat) (hhas _ (hcon _ hr2)) (fun t' s h => by rw [hna4 t'] at h; cases h)
          have hsets : lk (sets E1 [(k1, .int .i64 ((m - 1 - k : Nat) : Int)), (k2, d)]) = upd (upd (lk E1) k1 (.int .i64 ((m - 1 - k : Nat) : Int))) k2 d := by
            rw [lk_sets]; rfl
          have hdal : aliasOf d = none := by cases d <;> first | rfl | simp [D.flat0, D.simple] at hflat
          rw [← hsets] at hI5
          have hna5 : ∀ t, aliasOf (lk (sets E1 [(k1, .int .i64 ((m - 1 - k : Nat) : Int)), (k2, d)]) t) = none := fun t => by
            rw [hsets]; unfold upd; split
            · exact hdal
            · exact hna4 t
          refine iha (rd := some l) (okf := okr) (n0 := n2) (df0 := []) asg (.inl hna1.1) (.inr hna1.2) (fun q hq => hC q (List.mem_append_left _ hq)) _ _ _ _ W n2 [] ⟨hhas, (fun h => by cases h), (fun _ => ⟨rfl, rfl⟩)⟩ hc1 hna5 ⟨_, _, _, hI5⟩ hw ?_
          intro ex E' tm' w' n' df' hq hna' had' hg'
          obtain ⟨rfl, rfl⟩ := had'.2.2 rfl
          cases ex with
          | exit id => exact hq.elim
          | ret => exact hq.elim
          | nrm =>
            refine ⟨?_, fun o' ho' => ?_⟩
            · obtain ⟨S6, O6, gv6, hI6⟩ := id hg'
              exact hI6.keep
            · have holw : w'.heap[l]? = some ol := by obtain ⟨S6, O6, gv6, hI6⟩ := id hg'; exact hI6.keep l ol hol holc
              have hg6 := hg'.putObj holw holc ho' (Nat.le_trans hw0 hl)
              let n3 : Nz := { n2 with wk := w'.putObj l o' }
              refine ihb (rd := some l) (okf := okr) (n0 := n3) (df0 := []) bd (.inl hna2.1) (.inr hna2.2) (fun q hq => hC q (List.mem_append_right _ hq)) _ _ _ _ _ n3 [] ⟨hhas, (fun h => by cases h), (fun _ => ⟨rfl, rfl⟩)⟩ hc2 hna' hg6 hq ?_
              intro ex E3 tm3 W3 n' df' hq3 hna3 had3 hg3
              obtain ⟨rfl, rfl⟩ := had3.2.2 rfl
              cases ex with
              | exit id => exact hq3.elim
              | ret => exact hq3.elim
              | nrm =>
                obtain ⟨S7, O7, gv7, hI7⟩ := id hg3
                refine ⟨rfl, hI7.keep, _, hq3, hunk E3, keepE_noAlias out E3, ?_⟩
                refine (hg3.keep (live := out)).retm hI2.size hI2.fix ?_ hI2.nb (keepE_noAlias out E3) rfl (fun t ht => hunk E3 t ?_) (fun b o x => ⟨x, (cell_putObj holw holc ho').trans ((by obtain ⟨S6, O6, gv6, hI6⟩ := id hg'; exact (hI6.fz b o x).2 : w'.cell? ⟨b, o, none⟩ = W.cell? ⟨b, o, none⟩).trans (hI2.fz b o x).2)⟩)
                  (fun b x => ⟨x, by
                    obtain ⟨S6, O6, gv6, hI6⟩ := id hg'
                    refine (World.putObj_heap_other (fun e => ?_)).trans ((hI6.fb b x).2.2.2.trans (hI2.fb b x).2.2.2)
                    subst e
                    have h2 := (hI2.fb b x).2.2.2
                    have h3 := (hI2.fb b x).2.2.1
                    have h4 : w.heap.size ≤ b := hl
                    rw [Array.getElem?_eq_none (xs := w.heap) (by omega)] at h2
                    rw [Array.getElem?_eq_getElem h3] at h2; cases h2⟩)
                · intro j o hj ho
                  have h1 : W.heap[j]? = some o := hI2.keep j o hj ho
                  have h2 : w'.heap[j]? = some o := by obtain ⟨S6, O6, gv6, hI6⟩ := id hg'; exact hI6.keep j o h1 ho
                  refine hI7.keep j o ((World.putObj_heap_other (fun e => ?_)).trans h2) ho
                  have h3 : j < w.heap.size := (Array.getElem?_eq_some_iff.1 hj).1
                  omega
                · have ht' : okr t = true := ht
                  simp only [okr, Bool.and_eq_true] at ht'
                  exact ht'.1
        · -- behind
          rintro D W hD ⟨E1, e1, e2, e3, e4⟩ hWD
          refine hQ .nrm E1 tm W { n with wk := W } _ (hIm E1 e1) e3 ⟨had.1, fun _ => ?_, fun h => by cases h⟩ e4.rewk
          obtain ⟨Ds, hnd, hdf, hDs⟩ := had.2.1 rfl
          have hDw : ∀ D' ∈ Ds, w.heap[D']? = some (.deferred (some [])) := fun D' hD' => hI1.keep D' _ (hDs D' hD').2 rfl
          obtain ⟨S8, O8, gv8, hI8⟩ := e4
          refine ⟨D :: Ds, List.nodup_cons.2 ⟨fun hm => ?_, hnd⟩, by rw [hdf]; rfl, fun D' hm => ?_⟩
          · have := (Array.getElem?_eq_some_iff.1 (hDw D hm)).1
            omega
          · rcases List.mem_cons.1 hm with rfl | hm
            · exact ⟨Nat.le_trans hw0 hD, hWD⟩
            · exact ⟨(hDs D' hm).1, hI8.keep D' _ (hDw D' hm) rfl⟩
      | _ => simp [chkC] at hc
    | _ => simp [chkC] at hc
  | _ =>
    intro rd okf n0 df0 pc hB hT hC Q Qc E tm w n df had hc hna hg hwp hQ
    cases pc <;> simp only [chkC] at hc <;> first
      | (cases hc; done)
      | exact hwp.elim
      | exact cus_of hT hC hc hL0 had hna hg hwp hQ

end Go.Pi

/-
  A FUNCTION's CONTRACT OUT OF ITS PURE READING. Own work.
-/
namespace Go.Pi
open Go Go.RowKit

variable {P : Program} {L : World → Prop} {n : Nz} {S0 S : Nat → Nat → Prop} {w0 w : World} {O : Nat → Option Nat} {g : G} {tm : Array Value} {o : Oper} {dst : Nat}

inductive RV where
  | t (s : Nat)
  | c (s : Nat) (ag : Bool) (n : Nat)

def RV.slot : RV → Nat
  | .t s => s
  | .c s _ _ => s

/-- several results are a tuple, one is itself -/
def packR : List Value → Value
  | [x] => x
  | xs => .tuple xs.toArray

def chkRV (P : Program) : List ResultVar → List RV → Bool
  | [], [] => true
  | .tmp t :: r, .t s :: q => t == s && decide (t < GB) && chkRV P r q
  | .cell a ty :: r, .c s ag m :: q => a == s && decide (a < GB) && isAggB P ty == some ag && P.cellsOf ty == m && (P.info? ty).isSome && chkRV P r q
  | _, _ => false

/-- one result of several, or a plain one -/
def rvD (E : Env) : RV → Option D
  | .t s => if (lk E s).plain.isPure then some (lk E s).plain else none
  | .c s ag m => match lk E s with
    | .box _ cs => ofCells ag m cs
    | _ => none

def resD (E : Env) : List RV → Option D
  | [.t s] => match lk E s with
    | .own wr e m cs => some (.own wr e m cs)
    | d => if d.isPure then some d else none
  | [.c s ag m] => rvD E (.c s ag m)
  | rs => (optAll (rs.map (rvD E))).map .tup

def initE : Nat → List D → Env
  | _, [] => []
  | k, d :: ds => (k, d) :: initE (k + 1) ds

theorem lk_initE : ∀ (ds : List D) (k t : Nat), lk (initE k ds) t = if k ≤ t then (ds[t - k]?).getD .un else .un
  | [], k, t => by simp [initE, lk]
  | d :: ds, k, t => by
    simp only [initE, lk]
    rw [lk_initE ds (k + 1) t]
    by_cases h : t = k
    · subst h; simp
    · simp only [h, if_false]
      by_cases h2 : k + 1 ≤ t
      · rw [if_pos h2, if_pos (by omega), show t - k = (t - (k + 1)) + 1 by omega]; simp
      · rw [if_neg h2, if_neg (by omega)]

/-- a whole frame: every slot may be written -/
def Nz.all (m : Nat) (tm : Array Value) (w : World) : Nz := ⟨m, fun d => decide (d < m), tm, w, fun _ => undef, fun _ _ => False, fun _ => False⟩

theorem init_inv {ds : List D} {vs : List Value} {m : Nat} (hS : ∀ b j, S b j → b < w.heap.size) (hr : Reps S w ds vs) (hm : vs.length ≤ m) (hmg : m ≤ GB) :
    Inv P (Nz.all m (vs.toArray ++ Array.replicate (m - vs.toArray.size) undef) w) S w S (fun _ => none) (lk (initE 0 ds)) (vs.toArray ++ Array.replicate (m - vs.toArray.size) undef) w where
  fix := fun _ _ => rfl
  fz := fun _ _ h => h.elim
  fb := fun _ h => h.elim
  keep := fun _ _ h _ => h
  nb := hmg
  gh := fun t ht => by
    rw [lk_initE]
    simp only [Nat.zero_le, if_true, Nat.sub_zero]
    rw [List.getElem?_eq_none (by have := hr.1; omega)]
    rfl
  size := by simp [Nz.all]; omega
  below := Below.refl _ _
  sub := fun _ _ x => x
  sup := fun _ _ x => .inl x
  ex := hS
  inj := fun _ _ _ h => by cases h
  base := fun _ _ h => by cases h
  slot := fun t => by
    rw [lk_initE]
    simp only [Nat.zero_le, if_true, Nat.sub_zero]
    cases hd : ds[t]? with
    | none => simp [SR]
    | some d =>
      obtain ⟨v, hv, hrep⟩ := hr.get hd
      simp only [Option.getD_some]
      rw [SR.pure_iff hrep.pure]
      refine ⟨rfl, ?_⟩
      have hlt : t < vs.length := (List.getElem?_eq_some_iff.1 hv).1
      have e : tmOf (fun _ => undef) (vs.toArray ++ Array.replicate (m - vs.toArray.size) undef) t = v := by
        rw [tmOf_lt (by omega)]
        simp only [Array.getD_eq_getD_getElem?]
        rw [Array.getElem?_append_left (by simpa using hlt)]
        simp [hv]
      simp only [Nz.all]
      rw [e]; exact hrep

def rvRun (tmps : Array Value) : ResultVar → Sem Value
  | .tmp t => pure (tmps.getD t undef)
  | .cell a t => do loadVar t (← asAddr (tmps.getD a undef))

theorem run_rv {E : Env} {tmps : Array Value} (hI : Inv P n S0 w0 S O (lk E) tmps w) {v : ResultVar} {q : RV} (hc : chkRV P [v] [q] = true) {d : D} (hd : rvD E q = some d)
    (hdull : (lk E q.slot).dull = lk E q.slot) : ∃ x, (rvRun tmps v).run P w = .ok x w ∧ Rep S w d x := by
  cases v <;> cases q <;> simp only [chkRV, Bool.and_true, Bool.and_eq_true, beq_iff_eq] at hc <;> try (cases hc; done)
  · rename_i t s
    simp only [decide_eq_true_eq] at hc
    obtain ⟨rfl, htg⟩ := hc
    refine ⟨_, rfl, ?_⟩
    simp only [rvD] at hd
    split at hd <;> cases hd
    rename_i hp
    have hs := hI.slot t
    simp only [RV.slot] at hdull
    cases hg : lk E t <;> rw [hg] at hp hs hdull <;> simp only [D.plain, D.isPure] at hp ⊢ <;> first
      | (cases hp; done)
      | (have h2 := hs.2; rw [tmOf_lt htg] at h2; exact h2)
      | skip
    · simp only [D.dull, D.own.injEq, and_true, true_and] at hdull
      subst hdull
      have h2 := OwnR.rep hs
      rwa [tmOf_lt htg] at h2
    · simp only [D.dull, D.box.injEq, and_true, true_and] at hdull
      subst hdull
      have h2 := OwnR.repPt (P := P) hs
      rwa [tmOf_lt htg] at h2
  · rename_i a ty s ag m
    obtain ⟨⟨⟨h1, h2⟩, h3⟩, h4⟩ := hc
    simp only [decide_eq_true_eq] at h1
    obtain ⟨rfl, htg⟩ := h1
    simp only [rvD] at hd
    split at hd <;> try (cases hd; done)
    rename_i wr cs hg
    have hs := hI.slot a
    rw [hg] at hs
    simp only [SR, OwnR] at hs
    obtain ⟨b, arr, e, z1, z2, z3, z4, z5, _⟩ := hs
    obtain ⟨g1, g2, g3⟩ := ofCells_rep (S := S) (w := w) hd z4 z5
    refine ⟨_, ?_, g3⟩
    have := run_loadVar (P := P) (w := w) (vs := arr.toList.take m) (b := b) (off := 0) h2 (by rw [List.length_take]; omega) h4
      (fun j v hj => by
        rw [cell_of_row w b (0 + j) arr e (0, 0) z3]
        rw [List.getElem?_take] at hj
        split at hj <;> try (cases hj; done)
        simpa using hj) (fun e => by rw [List.length_take]; have := g2 e; omega)
    have e2 : tmps.getD a undef = .pointer (some ⟨b, 0, none⟩) := (tmOf_lt htg).symm.trans z2
    simp [rvRun, e2, asAddr, this]

theorem run_rvs {E : Env} {tmps : Array Value} (hI : Inv P n S0 w0 S O (lk E) tmps w) (hdull : ∀ s, (lk E s).dull = lk E s) : ∀ (vs : List ResultVar) (rs : List RV) (ds : List D), chkRV P vs rs = true → optAll (rs.map (rvD E)) = some ds →
    ∃ xs, (vs.mapM (rvRun tmps)).run P w = .ok xs w ∧ Reps S w ds xs
  | [], [], ds, _, h => by simp [optAll] at h; subst h; exact ⟨[], by simp, .nil⟩
  | [], _ :: _, _, h, _ => by simp [chkRV] at h
  | v :: vs, [], _, h, _ => by cases v <;> simp [chkRV] at h
  | v :: vs, q :: rs, ds, hc, h => by
    have hc1 : chkRV P [v] [q] = true ∧ chkRV P vs rs = true := by
      cases v <;> cases q <;> simp only [chkRV, Bool.and_eq_true, Bool.and_true] at hc ⊢ <;> first
        | (cases hc; done)
        | exact hc
    cases ds with
    | nil => have := optAll_nil h; simp at this
    | cons d ds =>
      obtain ⟨h1, h2⟩ := optAll_cons h
      obtain ⟨x, e1, e2⟩ := run_rv hI hc1.1 h1 (hdull _)
      obtain ⟨xs, e3, e4⟩ := run_rvs hI hdull vs rs ds hc1.2 h2
      exact ⟨x :: xs, by simp [List.mapM_cons, e1, e3], .cons e2 e4⟩

theorem results_eq (fn : Func) (tmps : Array Value) : results fn tmps = (do
    let vs ← fn.results.mapM (rvRun tmps)
    pure (if h : vs.size = 1 then vs[0] else .tuple vs)) := by
  unfold results
  congr 1

theorem run_results {fn : Func} {tmps : Array Value} {xs : List Value} (h : (fn.results.toList.mapM (rvRun tmps)).run P w = .ok xs w) :
    (results fn tmps).run P w = .ok (packR xs) w := by
  rw [results_eq, Array.mapM_eq_mapM_toList]
  simp only [Sem.run_bind, Sem.run_map, h, Result.andThen_ok, Sem.run_pure]
  congr 1
  match xs with
  | [] => rfl
  | [x] => rfl
  | x :: y :: r => simp [packR]

def anyE : Env → (D → Bool) → Bool
  | [], _ => false
  | p :: r, f => f p.2 || anyE r f

/-- all slots settled -/
theorem Inv.dullE {E : Env} (h : Inv P n S0 w0 S O (lk E) tm w) : ∃ S', Inv P n S0 w0 S' O (lk (E.map fun p => (p.1, p.2.dull))) tm w ∧ ∀ b j, S b j → S' b j := by
  obtain ⟨S', h1, h2⟩ := h.dullAll (E.map (·.1))
  refine ⟨S', ?_, h2⟩
  have e : Pi.dullAll (lk E) (E.map (·.1)) = lk (E.map fun p => (p.1, p.2.dull)) := by
    funext t
    clear h h1 h2
    have key : ∀ E : Env, lk (E.map fun p => (p.1, p.2.dull)) t = (lk E t).dull := by
      intro E
      induction E with
      | nil => rfl
      | cons p E ih =>
        obtain ⟨k, d⟩ := p
        simp only [List.map_cons, lk]
        split
        · rfl
        · exact ih
    have key2 : ∀ E : Env, t ∉ E.map (·.1) → lk E t = .un := by
      intro E
      induction E with
      | nil => intro _; rfl
      | cons p E ih =>
        intro hn
        obtain ⟨k, d⟩ := p
        simp only [List.map_cons, List.mem_cons, not_or] at hn
        simp only [lk, if_neg hn.1]
        exact ih hn.2
    rw [key]
    unfold Pi.dullAll
    split
    · rfl
    · rename_i hn
      rw [key2 E hn]; rfl
  rw [← e]; exact h1

theorem rvD_dull {E : Env} {q : RV} {d : D} (h : rvD E q = some d) : rvD (E.map fun p => (p.1, p.2.dull)) q = some d := by
  have key : ∀ t, lk (E.map fun p => (p.1, p.2.dull)) t = (lk E t).dull := by
    intro t
    induction E with
    | nil => rfl
    | cons p E ih =>
      obtain ⟨k, d'⟩ := p
      clear h
      simp only [List.map_cons, lk]
      split
      · rfl
      · clear ih
        induction E with
        | nil => rfl
        | cons p E ih =>
          obtain ⟨k, d'⟩ := p
          simp only [List.map_cons, lk]
          split
          · rfl
          · exact ih
  cases q with
  | t s =>
    simp only [rvD, key] at h ⊢
    cases hq : lk E s <;> rw [hq] at h <;> exact h
  | c s ag m =>
    simp only [rvD, key] at h ⊢
    cases hq : lk E s <;> rw [hq] at h <;> exact h

theorem dull_idem (E : Env) (s : Nat) : (lk (E.map fun p => (p.1, p.2.dull)) s).dull = lk (E.map fun p => (p.1, p.2.dull)) s := by
  induction E with
  | nil => rfl
  | cons p E ih =>
    obtain ⟨k, d⟩ := p
    simp only [List.map_cons, lk]
    split
    · exact dull_dull d
    · exact ih

/-- what a frame hands back -/
theorem Good.res {E : Env} {fn : Func} {rs : List RV} {r : D} {S : Nat → Nat → Prop} (hg : Good P n S w0 (lk E) tm w) (hna : ∀ t, aliasOf (lk E t) = none) (hc : chkRV P fn.results.toList rs = true) (hr : resD E rs = some r) :
    ∃ v, (results fn tm).run P w = .ok v w ∧ Below w0.heap.size w0 w ∧ Res P S w0 w r v := by
  obtain ⟨S1, O, gv, hI⟩ := hg
  have plainCase : ∀ {S2 : Nat → Nat → Prop} {d : D} {v : Value}, Inv P { n with gv := gv } S w0 S2 O (lk (E.map fun p => (p.1, p.2.dull))) tm w → Rep S2 w d v → Rep (fun b j => S b j ∨ (w0.heap.size ≤ b ∧ b < w.heap.size)) w d v := fun hI2 h =>
    h.mono (fun b j z => (hI2.sup b j z).imp id fun y => ⟨y, hI2.ex b j z⟩) (fun _ _ _ => rfl)
  have pure : ∀ d v, d.isPure = true → Rep (fun b j => S b j ∨ (w0.heap.size ≤ b ∧ b < w.heap.size)) w d v → Res P S w0 w d v := fun d v hp h => by
    cases d <;> first
      | exact h
      | simp [D.isPure] at hp
  obtain ⟨S2, hI2, _⟩ := hI.dullE
  have many : ∀ ds, optAll (rs.map (rvD E)) = some ds → ∃ xs, (fn.results.toList.mapM (rvRun tm)).run P w = .ok xs w ∧ Reps S2 w ds xs := by
    intro ds hds
    refine run_rvs hI2 (dull_idem E) _ rs ds hc ?_
    have : ∀ (rs : List RV) (ds : List D), optAll (rs.map (rvD E)) = some ds → optAll (rs.map (rvD (E.map fun p => (p.1, p.2.dull)))) = some ds := by
      intro rs
      induction rs with
      | nil => intro ds h; exact h
      | cons q rs ih =>
        intro ds h
        cases ds with
        | nil => have := optAll_nil h; simp at this
        | cons d ds =>
          obtain ⟨h1, h2⟩ := optAll_cons h
          simp only [List.map_cons, rvD_dull h1, optAll, ih ds h2, Option.map_some]
    exact this rs ds hds
  unfold resD at hr
  split at hr
  · rename_i s
    split at hr
    · rename_i wr e m cs hg
      cases hr
      have hfr : fn.results.toList = [.tmp s] ∧ s < GB := by
        cases hq : fn.results.toList with
        | nil => rw [hq] at hc; simp [chkRV] at hc
        | cons v vs =>
          rw [hq] at hc
          cases v <;> cases vs <;> simp [chkRV] at hc
          rw [hc.1]; exact ⟨rfl, hc.1 ▸ hc.2⟩
      have hrun : (fn.results.toList.mapM (rvRun tm)).run P w = .ok [tm.getD s undef] w := by rw [hfr.1]; simp [List.mapM_cons, rvRun]
      refine ⟨_, run_results hrun, hI.below, ?_⟩
      have hs := hI.slot s
      rw [hg] at hs
      simp only [SR] at hs
      rw [tmOf_lt hfr.2] at hs
      simp only [Res]
      refine ⟨O s, fun b hb => hI.base s b hb, ?_⟩
      refine OwnR.grow (w' := w) hs (fun b j z => ?_) (fun b j hb z => ?_) (fun _ _ _ => rfl) (fun _ _ => rfl)
      · rcases hI.sup b j z with y | y
        · exact .inl y
        · refine .inr ⟨y, hI.ex b j z, fun hb => ?_⟩
          simp only [SR, OwnR] at hs
          rcases hs with ⟨z1, _⟩ | ⟨b', cap, arr, z1, z2, z3, z4, z5, z6, z7, z8, z9, z10, z11⟩
          · rw [hb] at z1; cases z1
          · rw [hb] at z1; cases z1; exact z10 j z
      · rcases z with y | ⟨_, _, y⟩
        · exact hI.sub b j y
        · obtain ⟨hw, hj⟩ := y hb
          simp only [SR, OwnR] at hs
          rcases hs with ⟨z1, _⟩ | ⟨b', cap, arr, z1, z2, z3, z4, z5, z6, z7, z8, z9, z10, z11⟩
          · rw [hb] at z1; cases z1
          · rw [hb] at z1; cases z1; exact z11 hw j hj
    · rename_i d hnot
      split at hr <;> cases hr
      rename_i hp
      have hds : optAll ([RV.t s].map (rvD E)) = some [lk E s] := by
        have : rvD E (.t s) = some (lk E s) := by
          simp only [rvD]
          cases hq : lk E s <;> rw [hq] at hp <;> first | (simp [D.isPure] at hp; done) | rfl
        simp [this, optAll]
      obtain ⟨xs, h1, h2⟩ := many _ hds
      obtain ⟨x, xs', rfl, r1, r2⟩ := h2.uncons
      have : xs' = [] := by cases xs' with | nil => rfl | cons _ _ => have := r2.1; simp at this
      subst this
      exact ⟨_, run_results h1, hI.below, pure _ _ hp (plainCase hI2 r1)⟩
  · rename_i s ag m
    have hds : optAll ([RV.c s ag m].map (rvD E)) = some [r] := by simp [hr, optAll]
    obtain ⟨xs, h1, h2⟩ := many _ hds
    obtain ⟨x, xs', rfl, r1, r2⟩ := h2.uncons
    have : xs' = [] := by cases xs' with | nil => rfl | cons _ _ => have := r2.1; simp at this
    subst this
    exact ⟨_, run_results h1, hI.below, pure _ _ r1.pure (plainCase hI2 r1)⟩
  · rename_i hn1 hn2
    rw [Option.map_eq_some_iff] at hr
    obtain ⟨ds, hds, rfl⟩ := hr
    obtain ⟨xs, h1, h2⟩ := many _ hds
    have hlen : xs.length ≠ 1 := by
      have e1 : ∀ (l : List (Option D)) (ds : List D), optAll l = some ds → l.length = ds.length := by
        intro l
        induction l with
        | nil => intro ds h; simp [optAll] at h; subst h; rfl
        | cons x l ih =>
          intro ds h
          cases ds with
          | nil => have := optAll_nil h; simp at this
          | cons d ds => simp [ih ds (optAll_cons h).2]
      have e2 := e1 _ _ hds
      rw [← h2.1, ← e2, List.length_map]
      intro h
      match rs, h with
      | [.t s], _ => exact hn1 s rfl
      | [.c s ag m], _ => exact hn2 s ag m rfl
    have e3 : packR xs = .tuple xs.toArray := by
      match xs, hlen with
      | [], _ => rfl
      | x :: y :: r, _ => rfl
    refine ⟨_, run_results h1, hI.below, ?_⟩
    rw [e3]
    refine pure _ _ rfl (.tup ds xs h2.1 fun i d v hd hv => plainCase hI2 (h2.2 i d v hd hv))

/-- at a function's end the marks of its ranges are taken: nothing was deferred -/
theorem leaves_marks {fn : Func} {R : Ending → World → Prop} {nn : Nat} : ∀ (Ds : List Nat) (n : Nz) (w : World), Ds.Nodup → (∀ D ∈ Ds, w0.heap.size ≤ D ∧ w.heap[D]? = some (.deferred (some []))) → Good P n S0 w0 g tm w →
    (∀ n' w', Good P n' S0 w0 g tm w' → ∃ v, (results fn tm).run P w' = .ok v w' ∧ R (.returned v) w') → LeavesInM (WF none) nn P fn tm R (Ds.map mark) .returning w
  | [], n, w, _, _, hg, hR => hR n w hg
  | D :: Ds, n, w, hnd, hD, hg, hR => by
    have h1 := hD D (List.mem_cons_self ..)
    refine ⟨by simp, .inl ⟨D, w.putObj D (.deferred none), rfl, run_takeDeferred h1.2, ?_⟩⟩
    refine leaves_marks Ds _ _ (List.nodup_cons.1 hnd).2 (fun D' hm => ?_) (hg.putObj h1.2 rfl rfl h1.1) hR
    have hne : D' ≠ D := fun e => (List.nodup_cons.1 hnd).1 (e ▸ hm)
    exact ⟨(hD D' (List.mem_cons_of_mem _ hm)).1, (World.putObj_heap_other hne).trans (hD D' (List.mem_cons_of_mem _ hm)).2⟩

/-- THE RULE -/
theorem con_of (hL : ∀ w w', L w → Below w.heap.size w w' → L w') {f : FuncId} {fn : Func} {c : Code} {pc : PC} {rs : List RV} {ds : List D} {r : D} (hr0 : aliasOf r = none) (hf : P.funcs[f]? = some fn) (hb : fn.body = some c)
    (hnm : (fn.name != "runtime.NumGoroutine") = true) (hc : chkC P (fun d => decide (d < fn.ntmps)) c pc = true) (hrs : chkRV P fn.results.toList rs = true) (hlen : ds.length ≤ fn.ntmps) (hp : ds.all (fun d => (aliasOf d).isNone) = true) (hbk : ∀ q ∈ pc.backs, IsBack P q.1 q.2.1 q.2.2) (hcu : ∀ q ∈ cusL c pc, CusOk P L q.1 q.2.1 q.2.2) (hgb : fn.ntmps ≤ GB)
    (h : wpC (Con P L) pc (fun ex E => (match ex with | .exit _ => False | _ => True) ∧ resD E rs = some r) (initE 0 ds)) : Con P L f ds r := by
  refine ⟨⟨by simp [hasBody, hf, hb, hnm], hr0⟩, fun S w vs hS hLw hreps => ?_⟩
  have hI := init_inv (P := P) (m := fn.ntmps) hS hreps (by rw [← hreps.1]; exact hlen) hgb
  refine CallsIn.calls (F := WF none) (n := 0) (callsIn_of_wp_marks hf hb trivial ?_) (fun k d e => by cases e)
  refine wpC_sound (rd := none) (nn := 0) hL (w0 := w) (S0 := S) (n0 := Nz.all fn.ntmps (vs.toArray ++ Array.replicate (fn.ntmps - vs.toArray.size) undef) w) (df0 := []) hLw c pc (.inr ⟨rfl, hbk⟩) (.inl rfl) hcu _ _ (initE 0 ds) _ w (Nz.all fn.ntmps (vs.toArray ++ Array.replicate (fn.ntmps - vs.toArray.size) undef) w) _
    ⟨fun d h => ⟨of_decide_eq_true h, h⟩, fun _ => ⟨[], List.nodup_nil, rfl, fun D h => by cases h⟩, fun h => by cases h⟩ hc ?_ ⟨S, _, _, hI⟩ h ?_
  · intro t
    rw [lk_initE]
    simp only [Nat.zero_le, if_true, Nat.sub_zero]
    cases hd : ds[t]? with
    | none => rfl
    | some d =>
      have := List.all_eq_true.1 hp d (List.mem_of_getElem? hd)
      simpa using this
  · intro ex E' tm' w' n' df' hq hna had hg
    obtain ⟨Ds, hnd, rfl, hDs⟩ := had.2.1 rfl
    have hlv : LeavesInM (WF none) 0 P fn tm' (fun e w' => ∃ v, e = .returned v ∧ Below w.heap.size w w' ∧ Res P S w w' r v) (Ds.map mark) .returning w' := by
      obtain ⟨S1, O1, gv1, hI1⟩ := id hg
      refine leaves_marks Ds n' w' hnd (fun D hD => ⟨(hDs D hD).1, hI1.keep D _ (hDs D hD).2 rfl⟩) hg (fun n2 w2 hg2 => ?_)
      obtain ⟨v, h1, h2, h3⟩ := hg2.res hna hrs hq.2
      exact ⟨v, h1, v, rfl, h2, h3⟩
    cases ex with
    | nrm => exact hlv
    | exit id => exact hq.1.elim
    | ret => exact hlv

end Go.Pi

/-
  A FUNCTION'S CONTRACT: all checks in one Bool. Own work.
-/
namespace Go.Pi
open Go Go.RowKit

def chkFn (P : Program) (fn : Func) (np : Nat) (pc : PC) (rs : List RV) : Bool :=
  pc.noCus && pc.backs.isEmpty && (fn.name != "runtime.NumGoroutine") && decide (np ≤ fn.ntmps ∧ fn.ntmps ≤ GB) && chkRV P fn.results.toList rs && (match fn.body with
    | some c => chkC P (fun d => decide (d < fn.ntmps)) c pc
    | none => false)

/-- what a function's end must answer -/
def retQ (rs : List RV) (r : D) : Ex → Env → Prop := fun ex E => (match ex with | .exit _ => False | _ => True) ∧ resD E rs = some r

/-- THE RULE, with the checks in one -/
theorem con_chk {P : Program} {L : World → Prop} (hL : ∀ w w', L w → Below w.heap.size w w' → L w') {f : FuncId} {fn : Func} {np : Nat} {pc : PC} {rs : List RV} (hf : P.funcs[f]? = some fn)
    (hc : chkFn P fn np pc rs = true) {ds : List D} {r : D} (hr0 : aliasOf r = none) (hlen : ds.length = np) (hp : ds.all (fun d => (aliasOf d).isNone) = true)
    (h : wpC (Con P L) pc (retQ rs r) (initE 0 ds)) : Con P L f ds r := by
  unfold chkFn at hc
  simp only [Bool.and_eq_true, decide_eq_true_eq] at hc
  obtain ⟨⟨⟨⟨⟨hnc, h0⟩, h1⟩, h2⟩, h3⟩, h4⟩ := hc
  rw [List.isEmpty_iff] at h0
  split at h4
  · rename_i c hb
    exact con_of hL hr0 hf hb h1 h4 h3 (by omega) hp (fun q hq => by rw [h0] at hq; cases hq) (fun q hq => by rw [cusL_nil c pc hnc] at hq; cases hq) h2.2 h
  · cases h4

/-- the same where ranges over slices.Backward occur -/
def chkFnR (P : Program) (fn : Func) (np : Nat) (pc : PC) (rs : List RV) : Bool :=
  (fn.name != "runtime.NumGoroutine") && decide (np ≤ fn.ntmps ∧ fn.ntmps ≤ GB) && chkRV P fn.results.toList rs && (match fn.body with
    | some c => chkC P (fun d => decide (d < fn.ntmps)) c pc
    | none => false)

theorem con_chkR {P : Program} {L : World → Prop} (hL : ∀ w w', L w → Below w.heap.size w w' → L w') {f : FuncId} {fn : Func} {np : Nat} {pc : PC} {rs : List RV} (hf : P.funcs[f]? = some fn)
    (hc : chkFnR P fn np pc rs = true) (hbk : ∀ q ∈ pc.backs, IsBack P q.1 q.2.1 q.2.2) (hcu : ∀ c, fn.body = some c → ∀ q ∈ cusL c pc, CusOk P L q.1 q.2.1 q.2.2) {ds : List D} {r : D} (hr0 : aliasOf r = none) (hlen : ds.length = np) (hp : ds.all (fun d => (aliasOf d).isNone) = true)
    (h : wpC (Con P L) pc (retQ rs r) (initE 0 ds)) : Con P L f ds r := by
  unfold chkFnR at hc
  simp only [Bool.and_eq_true, decide_eq_true_eq] at hc
  obtain ⟨⟨⟨h1, h2⟩, h3⟩, h4⟩ := hc
  split at h4
  · rename_i c hb
    exact con_of hL hr0 hf hb h1 h4 h3 (by omega) hp hbk (hcu c hb) h2.2 h
  · cases h4

end Go.Pi
