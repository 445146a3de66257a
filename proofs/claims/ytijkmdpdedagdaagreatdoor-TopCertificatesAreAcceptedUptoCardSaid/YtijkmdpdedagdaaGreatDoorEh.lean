/-
  MAPS from texts to truth values, as functions. Own work.
-/
import Derived.Test.YtijkmdpdedagdaaGreatDoorEe
import Derived.Test.YtijkmdpdedagdaaGreatDoorEg
import Derived.Test.YtijkmdpdedagdaaGreatDoorPh
set_option linter.unusedVariables false
set_option linter.unusedSimpArgs false
namespace Go.Pi
open Go Go.RowKit Go.Maps
theorem plainElem_bool_inv {P : Program} {e : TypeId} (he : P.underlying e = some .bool) {v : Value} {z : DataW Unit × List MemPlace} (h : plainElem P e v = some z) : ∃ x, v = .bool x ∧ z = (.lit (.bool x), []) := by
  unfold plainElem at h
  rw [he] at h
  cases v <;> simp at h
  subst h
  exact ⟨_, rfl, rfl⟩
/-- block b is a map of at most n entries that reads as f -/
def MapB (P : Program) (k e : TypeId) (w : World) (b n : Nat) (f : List UInt8 → Bool) : Prop :=
  ∃ D : DataW Unit, w.ownsMap P k (plainElem P e) b n D ∧ ∀ s : List UInt8, D.atKey (.string s) (.lit (.bool false)) = .lit (.bool (f s))
namespace MapB
variable {P : Program} {k e t : TypeId} {w w' : World} {b n : Nat} {f : List UInt8 → Bool}
theorem made (w : World) (P : Program) (k e : TypeId) : MapB P k e (w.alloc (.map #[] 0)) w.heap.size 0 fun _ => false :=
  ⟨.map [], World.ownsMap_made w P k _, fun s => rfl⟩
theorem lt (h : MapB P k e w b n f) : b < w.heap.size := by obtain ⟨D, h, _⟩ := h; exact h.lt
theorem kept {X : Nat → Prop} (h : MapB P k e w b n f) (g : GrX X w w') (hn : ¬X b) : MapB P k e w' b n f := by
  obtain ⟨D, h, hD⟩ := h
  refine ⟨D, ?_, hD⟩
  have hlt := h.lt
  obtain ⟨es, clock, hb, r⟩ := h
  exact ⟨es, clock, (g.block b hlt hn).trans hb, r⟩
theorem look (h : MapB P k e w b n f) (hk : P.underlying k = some .string) (he : P.underlying e = some .bool) (ht : P.underlying t = some (.map k e)) (hz : (zeroValue e).run P w = .ok (.bool false) w) {s : List UInt8} (hs : s.length ≤ maxLen) :
    (Instr.lookup t (.map (some b)) (.string ⟨s.toArray⟩) false).run P w = .ok (.bool (f s)) w := by
  obtain ⟨D, h, hD⟩ := h
  obtain ⟨v, ps, h1, h2⟩ := h.lookup (string_keyed hk) ht hz (plainElem_bool he false) (MapI.key hk hs)
  rw [hD s] at h2
  obtain ⟨x, rfl, hx⟩ := plainElem_bool_inv he h2
  simp only [Prod.mk.injEq, DataW.lit.injEq, Lit.bool.injEq] at hx
  rw [h1, hx.1]
theorem put (h : MapB P k e w b n f) (hk : P.underlying k = some .string) (he : P.underlying e = some .bool) (ht : P.underlying t = some (.map k e)) (hn : n < maxLen) {s : List UInt8} (hs : s.length ≤ maxLen) (x : Bool) :
    ∃ w', (Instr.mapUpdate t (.map (some b)) (.string ⟨s.toArray⟩) (.bool x)).run P w = .ok () w' ∧ MapB P k e w' b (n + 1) (fun z => if z = s then x else f z) ∧ w.grownBy w' (some b) := by
  obtain ⟨D, h, hD⟩ := h
  obtain ⟨w', h1, h2, h3⟩ := h.update (string_keyed hk) ht hn (MapI.key hk hs) (plainElem_bool he x)
  refine ⟨w', h1, ⟨_, h2, fun z => ?_⟩, h3⟩
  have hm : Maps.IsMap D := h.isMap
  by_cases hz : z = s
  · subst hz
    have hkl := (string_keyed hk).key (MapI.key hk hs)
    rw [Maps.atKey_put_same hm hkl]
    simp
  · have hne : Lit.string z ≠ Lit.string s := fun e => hz (by injection e)
    rw [Maps.atKey_put_other hne, hD z]
    simp [hz]
theorem ne_box (h : MapB P k e w b n f) {b2 e2 : Nat} {cs2 : Array Value} (h2 : Go.Tp.BoxV w b2 e2 cs2) : b ≠ b2 := by
  rintro rfl
  obtain ⟨D, ⟨es, clock, hb, _⟩, _⟩ := h
  unfold Go.Tp.BoxV at h2
  rw [hb] at h2
  cases h2
end MapB
end Go.Pi

/-
  The state of cycle's inner loop in memory. Own work.
-/
namespace Go.Tp
open Go Go.Pi Go.RowKit
structure CyI (eA eD eI : Nat) (W wr : World) (bA bD g cap bV n : Nat) (a : Ar) (d : List Int) (v : Nat) (vo : Value) (o : List Int) : Prop where
  bel : Below W.heap.size W wr
  ba : BoxV wr bA eA #[.int .i64 a.i, .int .i64 a.a, .int .i64 a.b]
  bd : BoxV wr bD eD #[.slice (some ⟨g, 0, none⟩) n cap]
  row : wr.ownsRow W.heap.size eI 1 (.slice (some ⟨g, 0, none⟩) n cap) n (d.map (Value.int .i64))
  bv : BoxV wr bV eI #[.int .i64 v]
  out : wr.ownsRow W.heap.size eI 1 vo o.length (o.map (Value.int .i64))
  n1 : vo.ownBlock ≠ some g
  n2 : vo.ownBlock ≠ some bV
  n3 : bV ≠ g
  lV : W.heap.size ≤ bV
namespace CyI
variable {eA eD eI : Nat} {W wr w' : World} {bA bD g cap bV n : Nat} {a : Ar} {d : List Int} {v : Nat} {vo : Value} {o : List Int}
theorem kept (h : CyI eA eD eI W wr bA bD g cap bV n a d v vo o) (k : GrX (fun _ => False) wr w') : CyI eA eD eI W w' bA bD g cap bV n a d v vo o :=
  { h with bel := k.below h.bel (fun _ e => e.elim) h.bel.size, ba := h.ba.kept k id, bd := h.bd.kept k id, row := k.own h.row fun _ _ e => e, bv := h.bv.kept k id, out := k.own h.out fun _ _ e => e }
theorem newV (h : CyI eA eD eI W wr bA bD g cap bV n a d v vo o) : CyI eA eD eI W (wr.alloc (.cells #[.int .i64 v] eI)) bA bD g cap wr.heap.size n a d v vo o := by
  have k : GrX (fun _ => False) wr (wr.alloc (.cells #[.int .i64 v] eI)) := .alloc _ _
  have h' := h.kept k
  refine { h' with bv := heap_alloc_new wr _, n2 := fun e => ?_, n3 := fun e => ?_, lV := h.bel.size }
  · have := (h.out.lt _ e).2; omega
  · have := (h.row.lt g rfl).2; omega
theorem putV (h : CyI eA eD eI W wr bA bD g cap bV n a d v vo o) (h1 : eA ≠ eI) (h2 : eD ≠ eI) (v' : Nat) : CyI eA eD eI W (wr.setCell ⟨bV, 0, none⟩ (.int .i64 v')) bA bD g cap bV n a d v' vo o := by
  obtain ⟨b2, k⟩ := h.bv.put 0 (.int .i64 v')
  refine { h with bel := k.below h.bel (fun b e => by rw [e]; exact h.lV) h.bel.size, ba := h.ba.kept k (fun e => h.ba.ne_box h.bv h1 e), bd := h.bd.kept k (fun e => h.bd.ne_box h.bv h2 e), row := k.own h.row fun b hb e => ?_, bv := by simpa using b2, out := k.own h.out fun b hb e => ?_ }
  · have : g = b := by simpa [Value.ownBlock] using hb
    exact h.n3 (by rw [this, e])
  · exact h.n2 (by rw [hb, e])
theorem outA (h : CyI eA eD eI W wr bA bD g cap bV n a d v vo o) (h1 : eI ≠ eA) (h2 : eI ≠ eD) {Wx W1 : World} {ob : Obj} {x : Int} {g1 c1 : Nat} (e1 : Wx.os = wr.os) (e2 : Wx.tape = wr.tape) (e3 : Wx.output = wr.output) (hw : Wx.heap = (wr.alloc ob).heap) (hg : Wx.grownBy W1 vo.ownBlock) (hown : W1.ownsRow W.heap.size eI 1 (.slice (some ⟨g1, 0, none⟩) (o.length + 1) c1) (o.length + 1) (o.map (Value.int .i64) ++ [.int .i64 x])) (hl : vo.ownBlock = some g1 ∨ g1 = Wx.heap.size) :
    CyI eA eD eI W W1 bA bD g cap bV n a d v (.slice (some ⟨g1, 0, none⟩) (o.length + 1) c1) (o ++ [x]) := by
  have gx := gr_gen (o := ob) e1 e2 e3 hw
  have h' := h.kept gx
  have k : GrX (fun b => some b = vo.ownBlock) Wx W1 := .ofGrown hg
  have hf : ∀ b, g1 = b → vo.ownBlock = some b ∨ wr.heap.size ≤ b := fun b hb => by
    subst hb
    have := gx.size
    rcases hl with hl | hl
    · exact .inl hl
    · right; omega
  refine { h' with bel := k.below h'.bel (fun b e => (h'.out.lt b e.symm).1) h'.bel.size, ba := h'.ba.kept k (fun e => h'.ba.ne_own h'.out h1 e.symm), bd := h'.bd.kept k (fun e => h'.bd.ne_own h'.out h2 e.symm), row := k.own h'.row fun b hb e => ?_, bv := h'.bv.kept k (fun e => h'.n2 e.symm), out := ?_, n1 := fun e => ?_, n2 := fun e => ?_ }
  · have : g = b := by simpa [Value.ownBlock] using hb
    exact h'.n1 (by rw [← e, this])
  · rw [List.length_append, List.length_singleton, List.map_append]
    exact hown
  · have e : g1 = g := by simpa [Value.ownBlock] using e
    rcases hf g e with h3 | h3
    · exact h.n1 h3
    · have := (h.row.lt g rfl).2; omega
  · have e : g1 = bV := by simpa [Value.ownBlock] using e
    rcases hf bV e with h3 | h3
    · exact h.n2 h3
    · have := h.bv.lt; omega
end CyI
theorem leastK_cons (n : Nat) (arcs l : List Ar) (x : Ar) (m : Int) : leastK n arcs (x :: l) m = leastK n arcs l (if 0 ≤ gz (distF n arcs x.a (-1)) x.b ∧ (m = 0 ∨ gz (distF n arcs x.a (-1)) x.b + 1 < m) then gz (distF n arcs x.a (-1)) x.b + 1 else m) := rfl
end Go.Tp

/-
  READINGS ARE EVALUATED: a program of Lean that runs a reading at given data, and its soundness. Own work.
-/
namespace Go.Pi
open Go

mutual
/-- data are equal -/
def D.beq : D → D → Bool
  | .un, .un => true
  | .bool a, .bool b => a == b
  | .int k n, .int k' n' => decide (k = k') && decide (n = n')
  | .str s, .str s' => decide (s = s')
  | .agg a, .agg b => D.beqs a b
  | .tup a, .tup b => D.beqs a b
  | .sl n a, .sl m b => decide (n = m) && D.beqs a b
  | .pt a, .pt b => D.beqs a b
  | .clo f a, .clo g b => decide (f = g) && D.beqs a b
  | .err a, .err b => a == b
  | .own w e n a, .own w' e' m b => (w == w') && decide (e = e') && decide (n = m) && D.beqs a b
  | .nilp, .nilp => true
  | .opq, .opq => true
  | _, _ => false
def D.beqs : List D → List D → Bool
  | [], [] => true
  | a :: l, b :: r => D.beq a b && D.beqs l r
  | _, _ => false
end
mutual
theorem D.beq_eq : ∀ (a b : D), D.beq a b = true → a = b
  | a, b, h => by
    cases a <;> cases b <;> (first | cases h; done | skip) <;> (unfold D.beq at h) <;> (try simp only [Bool.and_eq_true, decide_eq_true_eq, beq_iff_eq] at h)
    all_goals first
      | rfl
      | (rw [h]; done)
      | (obtain ⟨rfl, rfl⟩ := h; rfl)
      | (rw [D.beqs_eq _ _ h])
      | (obtain ⟨rfl, h⟩ := h; rw [D.beqs_eq _ _ h])
      | (obtain ⟨⟨⟨rfl, rfl⟩, rfl⟩, h⟩ := h; rw [D.beqs_eq _ _ h])
      | (cases h)
theorem D.beqs_eq : ∀ (a b : List D), D.beqs a b = true → a = b
  | [], [], _ => rfl
  | a :: l, b :: r, h => by
    unfold D.beqs at h
    rw [Bool.and_eq_true] at h
    rw [D.beq_eq a b h.1, D.beqs_eq l r h.2]
  | [], _ :: _, h => by simp [D.beqs] at h
  | _ :: _, [], h => by simp [D.beqs] at h
end

abbrev Orc := FuncId → List D → Option D

def doX (o : Orc) (p : PO) (E : Env) : Option Env :=
  match p.k with
  | .call f args => match optAll (args.map (lend (lk E))) with
    | some ds => match o f ds with
      | some r => some (sets E ((K.call f args).after p.d (lk E) r))
      | none => none
    | none => none
  | .callV t args => match lk E t with
    | .clo f caps => match optAll (args.map (lend (lk E))) with
      | some ds => match o f (ds ++ caps) with
        | some r => some (sets E ((K.callV t args).after p.d (lk E) r))
        | none => none
      | none => none
    | _ => none
  | k => match k.run p.d (lk E) with
    | some l => some (sets E l)
    | none => none

def stX (o : Orc) : List PO → Env → Option Env
  | [], E => some E
  | p :: ps, E => match p.guard with
    | none => match doX o p E with
      | some E' => stX o ps E'
      | none => none
    | some (s, want) => match lk E s with
      | .bool b => if b = want then (match doX o p E with
          | some E' => stX o ps E'
          | none => none) else stX o ps (st1 E p.d (.tup []))
      | .tup [] => stX o ps (st1 E p.d (.tup []))
      | _ => none

theorem doX_do {C : FuncId → List D → D → Prop} {o : Orc} (ho : ∀ f ds r, o f ds = some r → C f ds r) {p : PO} {E E' : Env} {M : Env → Prop} (h : doX o p E = some E') (hM : M E') : doE C p M E := by
  unfold doX at h
  unfold doE
  split at h
  · rename_i f args hk
    rw [hk]
    dsimp only
    split at h <;> try (cases h; done)
    rename_i ds hds
    split at h <;> cases h
    rename_i r hr
    rw [hds]
    exact ⟨r, ho _ _ _ hr, hM⟩
  · rename_i t args hk
    rw [hk]
    dsimp only
    split at h <;> try (cases h; done)
    rename_i f caps ht
    rw [ht]
    dsimp only
    split at h <;> try (cases h; done)
    rename_i ds hds
    split at h <;> cases h
    rename_i r hr
    rw [hds]
    exact ⟨r, ho _ _ _ hr, hM⟩
  · rename_i h1 h2
    split at h <;> cases h
    rename_i l hl
    split
    · rename_i f args hk; exact absurd hk (h1 f args)
    · rename_i t args hk; exact absurd hk (h2 t args)
    · rw [hl]; exact hM

theorem stX_wp {C : FuncId → List D → D → Prop} {o : Orc} (ho : ∀ f ds r, o f ds = some r → C f ds r) : ∀ {ps : List PO} {E E' : Env} {M : Env → Prop}, stX o ps E = some E' → M E' → wpE C ps M E
  | [], E, E', M, h, hM => by cases h; exact hM
  | p :: ps, E, E', M, h, hM => by
    unfold stX at h
    unfold wpE
    split at h
    · rename_i hg
      rw [hg]
      dsimp only
      split at h <;> try (cases h; done)
      rename_i E1 hE1
      exact doX_do ho hE1 (stX_wp ho h hM)
    · rename_i s want hg
      rw [hg]
      dsimp only
      split at h <;> try (cases h; done)
      · rename_i b hb
        rw [hb]
        dsimp only
        split at h
        · rename_i hbw
          split at h <;> try (cases h; done)
          rename_i E1 hE1
          refine ⟨fun _ => doX_do ho hE1 (stX_wp ho h hM), fun e => ?_⟩
          subst hbw; cases b <;> cases e
        · rename_i hbw
          exact ⟨fun e => absurd e hbw, fun _ => stX_wp ho h hM⟩
      · rename_i hb
        rw [hb]
        exact stX_wp ho h hM

def runX (o : Orc) : Nat → PC → Env → Option (Ex × Env)
  | 0, _, _ => none
  | k + 1, pc, E => match pc with
    | .skip => some (.nrm, E)
    | .seq a b => match runX o k a E with
      | some (.nrm, E') => runX o k b E'
      | some (.exit id, E') => some (.exit id, E')
      | some (.ret, E') => some (.ret, E')
      | none => none
    | .reg ops live => match stX o ops E with
      | some E' => some (.nrm, keepE live E')
      | none => none
    | .cnd c t e => match c.ev (lk E) with
      | .bool true => runX o k t E
      | .bool false => runX o k e E
      | _ => none
    | .blk id b => match runX o k b E with
      | some (.nrm, E') => some (.nrm, E')
      | some (.exit id', E') => if id' = id then some (.nrm, E') else some (.exit id', E')
      | some (.ret, E') => some (.ret, E')
      | none => none
    | .loop b => match runX o k b E with
      | some (.nrm, E') => runX o k (.loop b) E'
      | some (.exit id, E') => some (.exit id, E')
      | some (.ret, E') => some (.ret, E')
      | none => none
    | .exit id => some (.exit id, E)
    | .ret => some (.ret, E)
    | _ => none

theorem leastN {p : Nat → Prop} : ∀ n, p n → ∃ m, p m ∧ ∀ i, p i → m ≤ i := by
  classical
  intro n
  induction n using Nat.strongRecOn with
  | _ n ih =>
    intro hn
    by_cases h : ∃ i, i < n ∧ p i
    · obtain ⟨i, h1, h2⟩ := h
      exact ih i h1 h2
    · exact ⟨n, hn, fun i hi => Nat.le_of_not_lt fun e => h ⟨i, e, hi⟩⟩
theorem leastE {p : Nat → Prop} (h : ∃ n, p n) : ∃ m, p m ∧ ∀ i, p i → m ≤ i := by obtain ⟨n, hn⟩ := h; exact leastN n hn

theorem runX_wp {C : FuncId → List D → D → Prop} {o : Orc} (ho : ∀ f ds r, o f ds = some r → C f ds r) : ∀ (k : Nat) {pc : PC} {E E' : Env} {ex : Ex} {Q : Ex → Env → Prop}, runX o k pc E = some (ex, E') → Q ex E' → wpC C pc Q E
  | 0, pc, E, E', ex, Q, h, _ => by simp [runX] at h
  | k + 1, .skip, E, E', ex, Q, h, hQ => by simp only [runX, Option.some.injEq, Prod.mk.injEq] at h; obtain ⟨rfl, rfl⟩ := h; exact hQ
  | k + 1, .seq a b, E, E', ex, Q, h, hQ => by
    simp only [runX] at h
    simp only [wpC]
    split at h
    · rename_i E1 h1
      exact runX_wp ho k h1 (runX_wp ho k h hQ)
    · rename_i id E1 h1
      cases h
      exact runX_wp ho k h1 hQ
    · rename_i E1 h1
      cases h
      exact runX_wp ho k h1 hQ
    · cases h
  | k + 1, .reg ops live, E, E', ex, Q, h, hQ => by
    simp only [runX] at h
    simp only [wpC]
    split at h <;> try (cases h; done)
    rename_i E1 h1
    simp only [Option.some.injEq, Prod.mk.injEq] at h
    obtain ⟨rfl, rfl⟩ := h
    exact stX_wp ho h1 hQ
  | k + 1, .cnd c t e, E, E', ex, Q, h, hQ => by
    simp only [runX] at h
    simp only [wpC]
    split at h <;> try (cases h; done)
    · rename_i hc
      rw [hc]
      exact ⟨fun _ => runX_wp ho k h hQ, fun e => by cases e⟩
    · rename_i hc
      rw [hc]
      exact ⟨fun e => (by cases e), fun _ => runX_wp ho k h hQ⟩
  | k + 1, .blk id b, E, E', ex, Q, h, hQ => by
    simp only [runX] at h
    simp only [wpC]
    split at h
    · rename_i E1 h1
      cases h
      exact runX_wp ho k h1 hQ
    · rename_i id' E1 h1
      refine runX_wp ho k h1 ?_
      dsimp only
      split at h <;> cases h
      · rename_i e; rw [if_pos e]; exact hQ
      · rename_i e; rw [if_neg e]; exact hQ
    · rename_i E1 h1
      cases h
      exact runX_wp ho k h1 hQ
    · cases h
  | k + 1, .loop b, E, E', ex, Q, h, hQ => by
    classical
    simp only [wpC]
    refine ⟨fun E1 => ∃ j, j ≤ k + 1 ∧ runX o j (.loop b) E1 = some (ex, E'), fun E1 => if hj : ∃ j, j ≤ k + 1 ∧ runX o j (.loop b) E1 = some (ex, E') then Classical.choose (leastE hj) else 0, ⟨k + 1, Nat.le_refl _, h⟩, ?_⟩
    intro E1 hj
    obtain ⟨⟨f0, f2⟩, f3⟩ := Classical.choose_spec (leastE hj)
    have hm : (if hj : ∃ j, j ≤ k + 1 ∧ runX o j (.loop b) E1 = some (ex, E') then Classical.choose (leastE hj) else 0) = Classical.choose (leastE hj) := dif_pos hj
    generalize Classical.choose (leastE hj) = j at *
    cases j with
    | zero => simp [runX] at f2
    | succ j =>
      simp only [runX] at f2
      split at f2
      · rename_i E2 h2
        have hE2 : ∃ i, i ≤ k + 1 ∧ runX o i (.loop b) E2 = some (ex, E') := ⟨j, by omega, f2⟩
        refine runX_wp ho j h2 ?_
        dsimp only
        refine ⟨hE2, ?_⟩
        rw [dif_pos hE2, hm]
        exact Nat.lt_succ_of_le ((Classical.choose_spec (leastE hE2)).2 j ⟨by omega, f2⟩)
      · rename_i id E2 h2
        cases f2
        exact runX_wp ho j h2 hQ
      · rename_i E2 h2
        cases f2
        exact runX_wp ho j h2 hQ
      · cases f2
  | k + 1, .exit id, E, E', ex, Q, h, hQ => by simp only [runX, Option.some.injEq, Prod.mk.injEq] at h; obtain ⟨rfl, rfl⟩ := h; exact hQ
  | k + 1, .ret, E, E', ex, Q, h, hQ => by simp only [runX, Option.some.injEq, Prod.mk.injEq] at h; obtain ⟨rfl, rfl⟩ := h; exact hQ
  | k + 1, .bad, E, E', ex, Q, h, hQ => by simp [runX] at h
  | k + 1, .rfn _ _ _ _ _ _ _ _ _ _, E, E', ex, Q, h, hQ => by simp [runX] at h
  | k + 1, .cus _ _, E, E', ex, Q, h, hQ => by simp [runX] at h
termination_by k => k

/-- a table of readings: function, reading, results, number of arguments -/
abbrev Tbl := List (FuncId × PC × List RV × Nat)

def Tbl.get : Tbl → FuncId → Option (PC × List RV × Nat)
  | [], _ => none
  | (g, pc, rs, np) :: T, f => if f = g then some (pc, rs, np) else Tbl.get T f

def callX (T : Tbl) (o : Orc) (fuel : Nat) : Nat → Orc
  | 0, f, ds => o f ds
  | k + 1, f, ds => match T.get f with
    | some (pc, rs, np) => if ds.length = np ∧ ds.all (fun d => (aliasOf d).isNone) = true then (match runX (callX T o fuel k) fuel pc (initE 0 ds) with
      | some (.nrm, E') => (match resD E' rs with
        | some r => if (aliasOf r).isNone then some r else none
        | none => none)
      | some (.ret, E') => (match resD E' rs with
        | some r => if (aliasOf r).isNone then some r else none
        | none => none)
      | _ => none) else none
    | none => o f ds

def Tbl.Ok (P : Program) (L : World → Prop) (T : Tbl) : Prop := ∀ q ∈ T, ∀ (ds : List D) (r : D), aliasOf r = none → ds.length = q.2.2.2 → ds.all (fun d => (aliasOf d).isNone) = true → wpC (Con P L) q.2.1 (retQ q.2.2.1 r) (initE 0 ds) → Con P L q.1 ds r

theorem Tbl.get_mem : ∀ {T : Tbl} {f : FuncId} {x : PC × List RV × Nat}, T.get f = some x → (f, x) ∈ T
  | [], f, x, h => by cases h
  | (g, pc, rs, np) :: T, f, x, h => by
    unfold Tbl.get at h
    split at h
    · rename_i e; subst e; cases h; exact List.mem_cons_self ..
    · exact List.mem_cons_of_mem _ (Tbl.get_mem h)

/-- THE EVALUATION IS RIGHT -/
theorem callX_con {P : Program} {L : World → Prop} {T : Tbl} {o : Orc} {fuel : Nat} (hT : T.Ok P L) (ho : ∀ f ds r, o f ds = some r → Con P L f ds r) : ∀ (k : Nat) (f : FuncId) (ds : List D) (r : D), callX T o fuel k f ds = some r → Con P L f ds r
  | 0, f, ds, r, h => ho f ds r h
  | k + 1, f, ds, r, h => by
    unfold callX at h
    split at h
    · rename_i pc rs np hg
      split at h <;> try (cases h; done)
      rename_i hd
      have ih := callX_con (fuel := fuel) hT ho k
      split at h
      · rename_i E' hE
        split at h <;> try (cases h; done)
        rename_i r' hr
        split at h <;> cases h
        rename_i ha
        exact hT _ (Tbl.get_mem hg) ds r (by simpa using ha) hd.1 hd.2 (runX_wp ih fuel hE ⟨trivial, hr⟩)
      · rename_i E' hE
        split at h <;> try (cases h; done)
        rename_i r' hr
        split at h <;> cases h
        rename_i ha
        exact hT _ (Tbl.get_mem hg) ds r (by simpa using ha) hd.1 hd.2 (runX_wp ih fuel hE ⟨trivial, hr⟩)
      · cases h
    · exact ho f ds r h

/-- an oracle that is a list of answers -/
def listO : List (FuncId × List D × D) → Orc
  | [], _, _ => none
  | (g, ds, r) :: l, f, ds' => if f = g then (if D.beqs ds ds' then some r else listO l f ds') else listO l f ds'
theorem listO_con {C : FuncId → List D → D → Prop} : ∀ {l : List (FuncId × List D × D)}, (∀ q ∈ l, C q.1 q.2.1 q.2.2) → ∀ f ds r, listO l f ds = some r → C f ds r
  | [], _, f, ds, r, h => by cases h
  | (g, ds0, r0) :: l, hl, f, ds, r, h => by
    unfold listO at h
    split at h
    · rename_i e
      subst e
      split at h
      · rename_i hb
        cases h
        rw [← D.beqs_eq _ _ hb]
        exact hl _ (List.mem_cons_self ..)
      · exact listO_con (fun q hq => hl q (List.mem_cons_of_mem _ hq)) f ds r h
    · exact listO_con (fun q hq => hl q (List.mem_cons_of_mem _ hq)) f ds r h
end Go.Pi

/-
  CYCLES AND ORDERS of a graph: plain. What cycF finds, and when; Kahn's order is an order. Own work.
-/
namespace Go.Tp
/-- arcs that lead on from v to w -/
def Lead : Nat → List Ar → Nat → Prop
  | v, [], w => v = w
  | v, x :: p, w => x.a = v ∧ Lead x.b p w
theorem Lead.append : ∀ {p q : List Ar} {u v w : Nat}, Lead u p v → Lead v q w → Lead u (p ++ q) w
  | [], q, u, v, w, h, k => by cases h; exact k
  | x :: p, q, u, v, w, h, k => ⟨h.1, Lead.append h.2 k⟩
theorem Lead.split : ∀ {p q : List Ar} {u w : Nat}, Lead u (p ++ q) w → ∃ v, Lead u p v ∧ Lead v q w
  | [], q, u, w, h => ⟨u, rfl, h⟩
  | x :: p, q, u, w, h => by
    obtain ⟨v, h1, h2⟩ := Lead.split (p := p) (q := q) h.2
    exact ⟨v, ⟨h.1, h1⟩, h2⟩
/-- a way shows that the distance is there -/
theorem DF.way {arcs : List Ar} {n to : Nat} {above : Int} {d : List Int} (h : DF arcs n to above d) : ∀ (p : List Ar) (v : Nat), Lead v p to → (∀ x ∈ p, x ∈ arcs ∧ above < x.i) → 0 ≤ gz d v ∧ gz d v ≤ p.length
  | [], v, hl, _ => by cases hl; rw [h.zero]; simp
  | x :: p, v, hl, hp => by
    obtain ⟨rfl, hl⟩ := hl
    obtain ⟨h1, h2⟩ := DF.way h p x.b hl fun y hy => hp y (List.mem_cons_of_mem _ hy)
    obtain ⟨hx, hi⟩ := hp x (List.mem_cons_self ..)
    have := h.le x hx hi h1
    rw [List.length_cons]
    omega
/-- the distance is that of a way -/
theorem DF.find {arcs : List Ar} {n to : Nat} {above : Int} {d : List Int} (h : DF arcs n to above d) (ha : ∀ x ∈ arcs, ArOk n x) : ∀ (k v : Nat), v < n → gz d v = k → ∃ p, Lead v p to ∧ p.length ≤ k ∧ ∀ x ∈ p, x ∈ arcs ∧ above < x.i
  | k, v, hv, hk => by
    by_cases e : v = to
    · exact ⟨[], e, by simp, fun x hx => (by cases hx)⟩
    · obtain ⟨x, hx, x1, x2, x3, x4⟩ := h.sup v hv e (by omega)
      cases k with
      | zero => omega
      | succ k =>
        obtain ⟨p, p1, p2, p3⟩ := DF.find h ha k x.b (ha x hx).2 (by omega)
        exact ⟨x :: p, ⟨x2, p1⟩, by simp; omega, fun y hy => by
          rcases List.mem_cons.1 hy with rfl | hy
          · exact ⟨hx, x1⟩
          · exact p3 y hy⟩
/-- what leastK is -/
theorem leastK_ok {n : Nat} {arcs : List Ar} (ha : ∀ x ∈ arcs, ArOk n x) : ∀ (l : List Ar) (m : Int), (∀ x ∈ l, x ∈ arcs) → 0 ≤ m → (m = 0 ∨ ∃ a ∈ arcs, gz (distF n arcs a.a (-1)) a.b = m - 1) →
    0 ≤ leastK n arcs l m ∧ (leastK n arcs l m = 0 ∨ ∃ a ∈ arcs, gz (distF n arcs a.a (-1)) a.b = leastK n arcs l m - 1) ∧ (m ≠ 0 → leastK n arcs l m ≠ 0 ∧ leastK n arcs l m ≤ m) ∧ ∀ a ∈ l, 0 ≤ gz (distF n arcs a.a (-1)) a.b → leastK n arcs l m ≠ 0 ∧ leastK n arcs l m ≤ gz (distF n arcs a.a (-1)) a.b + 1
  | [], m, _, h0, hm => ⟨h0, hm, fun h => ⟨h, Int.le_refl _⟩, fun a h => by cases h⟩
  | x :: l, m, hl, h0, hm => by
    have hx := hl x (List.mem_cons_self ..)
    have e : leastK n arcs (x :: l) m = leastK n arcs l (if 0 ≤ gz (distF n arcs x.a (-1)) x.b ∧ (m = 0 ∨ gz (distF n arcs x.a (-1)) x.b + 1 < m) then gz (distF n arcs x.a (-1)) x.b + 1 else m) := rfl
    rw [e]
    generalize hz : gz (distF n arcs x.a (-1)) x.b = z at *
    by_cases hc : 0 ≤ z ∧ (m = 0 ∨ z + 1 < m)
    · rw [if_pos hc]
      obtain ⟨r1, r2, r3, r4⟩ := leastK_ok ha l (z + 1) (fun y hy => hl y (List.mem_cons_of_mem _ hy)) (by omega) (.inr ⟨x, hx, by omega⟩)
      have r5 := r3 (by omega)
      refine ⟨r1, r2, fun hm => ⟨r5.1, by omega⟩, fun a hma h => ?_⟩
      rcases List.mem_cons.1 hma with rfl | hma
      · rw [hz]; exact r5
      · exact r4 a hma h
    · rw [if_neg hc]
      obtain ⟨r1, r2, r3, r4⟩ := leastK_ok ha l m (fun y hy => hl y (List.mem_cons_of_mem _ hy)) h0 hm
      refine ⟨r1, r2, r3, fun a hma h => ?_⟩
      rcases List.mem_cons.1 hma with rfl | hma
      · rw [hz] at h ⊢
        have hm0 : m ≠ 0 := fun e => hc ⟨h, .inl e⟩
        have := r3 hm0
        exact ⟨this.1, by omega⟩
      · exact r4 a hma h
/-- two arcs with one index are one -/
def OneIx (arcs : List Ar) : Prop := ∀ x ∈ arcs, ∀ y ∈ arcs, x.i = y.i → x = y
theorem min_ix : ∀ (l : List Ar), l ≠ [] → ∃ a ∈ l, ∀ x ∈ l, a.i ≤ x.i
  | [], h => absurd rfl h
  | [x], _ => ⟨x, List.mem_singleton.2 rfl, fun y hy => by rw [List.mem_singleton.1 hy]; exact Nat.le_refl _⟩
  | x :: y :: l, _ => by
    obtain ⟨a, h1, h2⟩ := min_ix (y :: l) (by simp)
    by_cases h : a.i ≤ x.i
    · exact ⟨a, List.mem_cons_of_mem _ h1, fun z hz => by
        rcases List.mem_cons.1 hz with rfl | hz
        · exact h
        · exact h2 z hz⟩
    · exact ⟨x, List.mem_cons_self .., fun z hz => by
        rcases List.mem_cons.1 hz with rfl | hz
        · exact Nat.le_refl _
        · have := h2 z hz; omega⟩
/-- A CLOSED WAY IS FOUND -/
theorem cyc_found {n : Nat} {arcs : List Ar} (ha : ∀ x ∈ arcs, ArOk n x) (h1 : OneIx arcs) {a0 : Ar} (h0 : a0 ∈ arcs) {p0 : List Ar} (hp0 : Lead a0.b p0 a0.a) (hm0 : ∀ x ∈ p0, x ∈ arcs) : ∃ c, cycF n arcs = some c := by
  have hneg : ∀ x : Ar, (-1 : Int) < x.i := fun x => by omega
  obtain ⟨r1, r2, _, r4⟩ := leastK_ok ha arcs 0 (fun _ h => h) (Int.le_refl _) (.inl rfl)
  have hway0 := (distF_df (above := -1) (ha a0 h0).1 ha).way p0 a0.b hp0 fun x hx => ⟨hm0 x hx, hneg x⟩
  have hm := (r4 a0 h0 hway0.1).1
  obtain ⟨b, hb, hbm⟩ := r2.resolve_left hm
  obtain ⟨m, hmN⟩ : ∃ m : Nat, leastK n arcs arcs 0 = (m : Int) + 1 := ⟨(leastK n arcs arcs 0 - 1).toNat, by omega⟩
  obtain ⟨p, p1, p2, p3⟩ := (distF_df (above := -1) (ha b hb).1 ha).find ha m b.b (ha b hb).2 (by omega)
  -- its arc with the least index
  obtain ⟨a, hac, hmin⟩ := min_ix (b :: p) (by simp)
  have hcyc : ∀ x ∈ b :: p, x ∈ arcs := fun x hx => by
    rcases List.mem_cons.1 hx with rfl | hx
    · exact hb
    · exact (p3 x hx).1
  have haa := hcyc a hac
  obtain ⟨X, Y, hXY⟩ := List.append_of_mem hac
  have hL : Lead b.a (b :: p) b.a := ⟨rfl, p1⟩
  rw [hXY] at hL
  obtain ⟨u, l1, l2⟩ := Lead.split hL
  obtain ⟨rfl, l3⟩ := l2
  have hrot : Lead a.b (Y ++ X) a.a := l3.append l1
  have hlen : (Y ++ X).length = p.length := by
    have := congrArg List.length hXY
    simp at this ⊢
    omega
  have hmem : ∀ x ∈ Y ++ X, x ∈ b :: p := fun x hx => by
    rw [hXY]
    rcases List.mem_append.1 hx with h | h
    · exact List.mem_append_right _ (List.mem_cons_of_mem _ h)
    · exact List.mem_append_left _ h
  have hlow := fun x (hx : x ∈ arcs) h => (r4 x hx h).2
  -- no arc comes twice
  have hgt : ∀ x ∈ Y ++ X, x ∈ arcs ∧ (a.i : Int) < x.i := fun x hx => by
    have hxa := hcyc x (hmem x hx)
    refine ⟨hxa, ?_⟩
    have hle := hmin x (hmem x hx)
    rcases Nat.lt_or_ge a.i x.i with h | h
    · omega
    · exfalso
      have e : x = a := h1 x hxa a haa (by omega)
      subst e
      obtain ⟨P, Q, hPQ⟩ := List.append_of_mem hx
      rw [hPQ] at hrot
      obtain ⟨v, k1, k2⟩ := Lead.split hrot
      obtain ⟨rfl, _⟩ := k2
      have hw := (distF_df (above := -1) (ha x haa).1 ha).way P x.b k1 fun y hy => ⟨hcyc y (hmem y (by rw [hPQ]; exact List.mem_append_left _ hy)), hneg y⟩
      have h5 := hlow x haa hw.1
      have h6 : P.length < (Y ++ X).length := by rw [hPQ]; simp
      omega
  have hd := (distF_df (above := (a.i : Int)) (ha a haa).1 ha).way (Y ++ X) a.b hrot hgt
  -- and no shorter way
  have hd2 : gz (distF n arcs a.a a.i) a.b = m := by
    obtain ⟨k, hk⟩ : ∃ k : Nat, gz (distF n arcs a.a a.i) a.b = k := ⟨(gz (distF n arcs a.a a.i) a.b).toNat, by omega⟩
    obtain ⟨q, q1, q2, q3⟩ := (distF_df (above := (a.i : Int)) (ha a haa).1 ha).find ha k a.b (ha a haa).2 hk
    have hw := (distF_df (above := -1) (ha a haa).1 ha).way q a.b q1 fun y hy => ⟨(q3 y hy).1, hneg y⟩
    have h5 := hlow a haa hw.1
    omega
  have hhit : hitK n arcs (leastK n arcs arcs 0) a = true := by
    unfold hitK
    rw [hd2, decide_eq_true hm, Bool.true_and]
    exact decide_eq_true (by omega)
  unfold cycF
  cases hf : arcs.find? (hitK n arcs (leastK n arcs arcs 0)) with
  | none => exact absurd hhit (by simpa using List.find?_eq_none.1 hf a haa)
  | some a' => exact ⟨_, rfl⟩
/-- what pathK is -/
theorem pathK_ok {arcs : List Ar} {n to above : Nat} {d : List Int} (h : DF arcs n to above d) (ha : ∀ x ∈ arcs, ArOk n x) : ∀ (f v : Nat), v < n → 0 ≤ gz d v → (gz d v).toNat < f → ∃ p : List Ar, pathK arcs d to above f v = p.map (fun x => (x.i : Int)) ∧ Lead v p to ∧ (∀ x ∈ p, x ∈ arcs) ∧ (∀ x ∈ p, 0 < gz d x.a ∧ gz d x.a ≤ gz d v) ∧ p.Pairwise fun x y => gz d y.a < gz d x.a
  | 0, v, _, _, h1 => by omega
  | f + 1, v, hv, h0, h1 => by
    unfold pathK
    by_cases e : v = to
    · rw [if_pos e]
      exact ⟨[], rfl, e, fun x hx => (by cases hx), fun x hx => (by cases hx), List.Pairwise.nil⟩
    · rw [if_neg e]
      obtain ⟨b, hf, hb, _, hba, he, hb0⟩ := next_some h hv e h0
      rw [hf]
      dsimp only
      obtain ⟨p, p1, p2, p3, p4, p5⟩ := pathK_ok h ha f b.b (ha b hb).2 hb0 (by omega)
      refine ⟨b :: p, by rw [p1]; rfl, ⟨hba, p2⟩, fun x hx => ?_, fun x hx => ?_, List.Pairwise.cons (fun x hx => ?_) p5⟩
      · rcases List.mem_cons.1 hx with rfl | hx
        · exact hb
        · exact p3 x hx
      · rcases List.mem_cons.1 hx with rfl | hx
        · rw [hba]; omega
        · have := p4 x hx; omega
      · have := p4 x hx; rw [hba]; omega
/-- WHAT cycF FINDS: a closed way of arcs that begin at different units -/
theorem cycF_ok {n : Nat} {arcs : List Ar} (ha : ∀ x ∈ arcs, ArOk n x) {c : List Int} (h : cycF n arcs = some c) : ∃ (a : Ar) (p : List Ar), c = (a :: p).map (fun x => (x.i : Int)) ∧ Lead a.a (a :: p) a.a ∧ (∀ x ∈ a :: p, x ∈ arcs) ∧ (a :: p).Pairwise fun x y => x.a ≠ y.a := by
  unfold cycF at h
  split at h
  · cases h
  · rename_i a hf
    cases h
    have haa := List.mem_of_find?_eq_some hf
    have hh := List.find?_some hf
    unfold hitK at hh
    simp only [Bool.and_eq_true, decide_eq_true_eq] at hh
    obtain ⟨r1, _⟩ := leastK_ok ha arcs 0 (fun _ h => h) (Int.le_refl _) (.inl rfl)
    have hd := distF_df (above := (a.i : Int)) (ha a haa).1 ha
    have hhi := hd.hi a.b (ha a haa).2
    obtain ⟨p, p1, p2, p3, p4, p5⟩ := pathK_ok hd ha (n + 1) a.b (ha a haa).2 (by omega) (by omega)
    refine ⟨a, p, by rw [p1]; rfl, ⟨rfl, p2⟩, fun x hx => ?_, List.Pairwise.cons (fun x hx e => ?_) (p5.imp fun h e => by rw [e] at h; omega)⟩
    · rcases List.mem_cons.1 hx with rfl | hx
      · exact haa
      · exact p3 x hx
    · have := (p4 x hx).1
      rw [← e, hd.zero] at this
      omega
theorem Lead.up : ∀ {p : List Ar} {v w : Nat}, Lead v p w → (∀ x ∈ p, x.a < x.b) → v ≤ w
  | [], v, w, h, _ => Nat.le_of_eq h
  | x :: p, v, w, h, hp => by
    have h1 := hp x (List.mem_cons_self ..)
    have h2 := Lead.up h.2 fun y hy => hp y (List.mem_cons_of_mem _ hy)
    have h3 := h.1
    omega
theorem Lead.up1 {a : Ar} {p : List Ar} (h : Lead a.a (a :: p) a.a) (hp : ∀ x ∈ a :: p, x.a < x.b) : False := by
  have h1 := hp a (List.mem_cons_self ..)
  have h2 := h.2.up fun y hy => hp y (List.mem_cons_of_mem _ hy)
  omega
/-- Kahn's order is an order -/
def Topo (arcs : List Ar) (o : List Int) : Prop := ∀ x ∈ arcs, ∀ k : Nat, o[k]? = some (x.b : Int) → ∃ j : Nat, j < k ∧ o[j]? = some (x.a : Int)
theorem topo_step {n : Nat} {arcs : List Ar} (ha : ∀ x ∈ arcs, ArOk n x) {s : KS} (h : KI n arcs s.c s.q s.o []) (ht : Topo arcs s.o) (hq : 0 < s.q.length) : Topo arcs (kstep arcs s).o := by
  intro x hx k hk
  have e : (kstep arcs s).o = s.o ++ [gz s.q 0] := rfl
  rw [e] at hk ⊢
  by_cases hks : k < s.o.length
  · rw [List.getElem?_append_left hks] at hk
    obtain ⟨j, hj, hj2⟩ := ht x hx k hk
    exact ⟨j, hj, by rw [List.getElem?_append_left (by omega)]; exact hj2⟩
  · have hk2 := (List.getElem?_eq_some_iff.1 hk).1
    rw [List.length_append, List.length_singleton] at hk2
    obtain rfl : k = s.o.length := by omega
    rw [List.getElem?_append_right (Nat.le_refl _), Nat.sub_self, List.getElem?_cons_zero] at hk
    injection hk with hk
    have hm : (x.b : Int) ∈ s.o ++ s.q := by rw [← hk, ← getD_gz' hq]; exact List.mem_append_right _ (List.getElem_mem _)
    have hz := (h.zero x.b (ha x hx).2).1 hm
    have hc := h.cnt x.b (ha x hx).2
    rw [hz] at hc
    have h0 : inA arcs s.o x.b = 0 := by
      simp only [List.filter_nil, List.length_nil] at hc
      omega
    have hin : (x.a : Int) ∈ s.o := by
      by_cases hin : (x.a : Int) ∈ s.o
      · exact hin
      · exfalso
        unfold inA at h0
        have : x ∈ arcs.filter fun y => decide (y.b = x.b ∧ ¬(y.a : Int) ∈ s.o) := List.mem_filter.2 ⟨hx, decide_eq_true ⟨rfl, hin⟩⟩
        rw [List.length_eq_zero_iff.1 h0] at this
        cases this
    obtain ⟨j, hj⟩ := List.getElem?_of_mem hin
    have hjl := (List.getElem?_eq_some_iff.1 hj).1
    exact ⟨j, hjl, by rw [List.getElem?_append_left hjl]; exact hj⟩
theorem kloop_topo {n : Nat} {arcs : List Ar} (ha : ∀ x ∈ arcs, ArOk n x) : ∀ (f : Nat) (s : KS), KI n arcs s.c s.q s.o [] → Topo arcs s.o → Topo arcs (kloop arcs f s).o
  | 0, s, _, ht => ht
  | f + 1, s, h, ht => by
    unfold kloop
    split
    · exact ht
    · rename_i e
      exact kloop_topo ha f _ (KI.step ha h (by omega)) (topo_step ha h ht (by omega))
theorem srt_topo {n : Nat} {arcs : List Ar} (ha : ∀ x ∈ arcs, ArOk n x) : Topo arcs (srtF n arcs) :=
  kloop_topo ha _ _ (KI.start ha) fun x _ k hk => by simp [s0K] at hk
theorem len_all : ∀ (n : Nat) (o : List Int), (∀ j : Nat, j < n → (j : Int) ∈ o) → n ≤ o.length
  | 0, o, _ => Nat.zero_le _
  | n + 1, o, h => by
    have h1 := len_all n (o.erase (n : Int)) fun j hj => (List.mem_erase_of_ne (by omega)).2 (h j (by omega))
    rw [List.length_erase, if_pos (h n (Nat.lt_succ_self n))] at h1
    have : 0 < o.length := List.length_pos_of_mem (h n (Nat.lt_succ_self n))
    omega
theorem pigeon : ∀ (n : Nat) (l : List Nat), (∀ x ∈ l, x < n) → n < l.length → ¬l.Nodup := by
  intro n l h1 h2 hd
  have h3 := nodup_bd n (l.map fun x : Nat => (x : Int)) (List.Pairwise.map _ (fun a b hab e => hab (by omega)) hd) (fun x hx => by
    obtain ⟨y, hy, rfl⟩ := List.mem_map.1 hx
    exact ⟨y, h1 y hy, rfl⟩)
  rw [List.length_map] at h3
  omega
theorem dup_split : ∀ (p : List Ar), ¬(p.map Ar.a).Nodup → ∃ X Y Z : List Ar, ∃ a b : Ar, p = X ++ a :: (Y ++ b :: Z) ∧ a.a = b.a
  | [], h => absurd List.nodup_nil h
  | x :: p, h => by
    by_cases hx : x.a ∈ p.map Ar.a
    · obtain ⟨b, hb, e⟩ := List.mem_map.1 hx
      obtain ⟨Y, Z, rfl⟩ := List.append_of_mem hb
      exact ⟨[], Y, Z, x, b, rfl, e.symm⟩
    · have : ¬(p.map Ar.a).Nodup := fun hd => h (List.nodup_cons.2 ⟨hx, hd⟩)
      obtain ⟨X, Y, Z, a, b, rfl, e⟩ := dup_split p this
      exact ⟨x :: X, Y, Z, a, b, rfl, e⟩
/-- WITHOUT A CYCLE ALL UNITS ARE IN ORDER -/
theorem srt_all {n : Nat} {arcs : List Ar} (ha : ∀ x ∈ arcs, ArOk n x) (h1 : OneIx arcs) (hc : cycF n arcs = none) : (srtF n arcs).length = n := by
  obtain ⟨h2, h3⟩ := kloop_ki ha (n + 1) (s0K n arcs) (KI.start ha) (by simp [s0K])
  rw [h3] at h2
  change KI n arcs _ [] (srtF n arcs) [] at h2
  generalize srtF n arcs = o at h2
  by_cases hl : o.length = n
  · exact hl
  · exfalso
    have hb := h2.bound
    simp only [List.length_nil, Nat.add_zero] at hb
    have hback : ∀ j : Nat, ¬(j : Int) ∈ o → ∀ m, j < m → m = n → ∃ x ∈ arcs, x.b = j ∧ ¬(x.a : Int) ∈ o ∧ x.a < m := by
      intro j ho m hj hmn
      subst hmn
      have hz : gz (kloop arcs (m + 1) (s0K m arcs)).c j ≠ 0 := fun e => ho (by have := (h2.zero j hj).2 e; simpa using this)
      have hcn := h2.cnt j hj
      simp only [List.filter_nil, List.length_nil] at hcn
      have hne : inA arcs o j ≠ 0 := by omega
      unfold inA at hne
      obtain ⟨x, hx⟩ := List.exists_mem_of_length_pos (Nat.pos_of_ne_zero hne)
      obtain ⟨hx1, hx2⟩ := List.mem_filter.1 hx
      simp only [decide_eq_true_eq] at hx2
      exact ⟨x, hx1, hx2.1, hx2.2, (ha x hx1).1⟩
    -- a unit that is left
    obtain ⟨j, hj, hjo⟩ : ∃ j : Nat, j < n ∧ ¬(j : Int) ∈ o := by
      by_cases hall : ∀ j : Nat, j < n → (j : Int) ∈ o
      · exfalso
        have := len_all n o hall
        omega
      · simp only [Classical.not_forall] at hall
        obtain ⟨j, hj, hjo⟩ := hall
        exact ⟨j, hj, hjo⟩
    have hB : ∀ (k j : Nat), j < n → ¬(j : Int) ∈ o → ∃ (p : List Ar) (v : Nat), Lead v p j ∧ p.length = k ∧ v < n ∧ ¬(v : Int) ∈ o ∧ ∀ x ∈ p, x ∈ arcs ∧ x.a < n := by
      intro k
      induction k with
      | zero => exact fun j hj ho => ⟨[], j, rfl, rfl, hj, ho, fun x hx => (by cases hx)⟩
      | succ k ih =>
        intro j hj ho
        obtain ⟨x, hx, rfl, hxo, hxn⟩ := hback j ho n hj rfl
        obtain ⟨p, v, p1, p2, p3, p4, p5⟩ := ih x.a hxn hxo
        refine ⟨p ++ [x], v, p1.append ⟨rfl, rfl⟩, by simp [p2], p3, p4, fun y hy => ?_⟩
        rcases List.mem_append.1 hy with hy | hy
        · exact p5 y hy
        · rw [List.mem_singleton] at hy; subst hy; exact ⟨hx, hxn⟩
    obtain ⟨p, v, p1, p2, _, _, p5⟩ := hB (n + 1) j hj hjo
    obtain ⟨X, Y, Z, a, b, rfl, e⟩ := dup_split p (pigeon n _ (fun x hx => by
      obtain ⟨y, hy, rfl⟩ := List.mem_map.1 hx
      exact (p5 y hy).2) (by rw [List.length_map]; omega))
    obtain ⟨u, _, l2⟩ := Lead.split p1
    obtain ⟨rfl, l3⟩ := l2
    obtain ⟨u, l4, l5⟩ := Lead.split l3
    obtain ⟨rfl, _⟩ := l5
    rw [← e] at l4
    obtain ⟨c, hcc⟩ := cyc_found ha h1 (p5 a (by simp)).1 l4 fun x hx => (p5 x (by simp [hx])).1
    rw [hc] at hcc
    cases hcc
end Go.Tp
