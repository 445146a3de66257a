/-
  WHEN A FRAME OF THE MODEL IS READ RIGHTLY BY DATA: the invariant, and the ways in which it is kept. Own work.
-/
import Derived.Test.YtijkmdpdedagdaaGreatDoorPa
import Derived.RangeFuncNested
set_option linter.unusedVariables false
set_option linter.unusedSimpArgs false
namespace Go.Pi
open Go Go.RowKit

/-- own memory of a slot -/
def OwnR (P : Program) (S : Nat → Nat → Prop) (w : World) (ob : Option Nat) (d : D) (v : Value) : Prop :=
  match d with
  | .own wr e n ds =>
    (ob = none ∧ v = .slice none 0 0 ∧ n = 0 ∧ ds = []) ∨
    ∃ b cap arr, ob = some b ∧ v = .slice (some ⟨b, 0, none⟩) n cap ∧ w.heap[b]? = some (.cells arr e (0, 0)) ∧ n ≤ cap ∧ cap ≤ maxLen ∧ arr.size = cap * P.cellsOf e ∧ ds.length = n * P.cellsOf e ∧
      Reps S w ds (arr.toList.take (n * P.cellsOf e)) ∧ (∀ d ∈ ds, d.one = true) ∧ (∀ j, S b j → wr = false ∧ j < ds.length) ∧ (wr = false → ∀ j, j < ds.length → S b j)
  | .box wr ds =>
    ∃ b arr e, ob = some b ∧ v = .pointer (some ⟨b, 0, none⟩) ∧ w.heap[b]? = some (.cells arr e (0, 0)) ∧
      Reps S w ds arr.toList ∧ (∀ d ∈ ds, d.one = true) ∧ (∀ j, S b j → wr = false ∧ j < ds.length) ∧ (wr = false → ∀ j, j < ds.length → S b j)
  | _ => False

theorem GF_ge (t i : Nat) : GB ≤ GF t i := by unfold GF; rw [Nat.mul_succ]; omega
theorem GF_ne {t s : Nat} (i : Nat) (h : s < GB) : GB + s ≠ GF t i := by unfold GF; rw [Nat.mul_succ, Nat.mul_succ]; omega
/-- the cells of a box some of whose fields are ghost slots -/
def MCs (S : Nat → Nat → Prop) (w : World) (tm : Nat → Value) (t : Nat) (cs : List D) (vs : List Value) : Prop :=
  cs.length = vs.length ∧ ∀ (i : Nat) (d : D) (v : Value), cs[i]? = some d → vs[i]? = some v → (d = .al (GF t i) ∧ v = tm (GF t i)) ∨ (d.one = true ∧ Rep S w d v)

theorem MCs.mono {S S' : Nat → Nat → Prop} {w w' : World} {tm : Nat → Value} {t : Nat} {cs : List D} {vs : List Value} (h : MCs S w tm t cs vs) (hS : ∀ b o, S b o → S' b o) (hw : ∀ b o, S b o → w'.cell? ⟨b, o, none⟩ = w.cell? ⟨b, o, none⟩) : MCs S' w' tm t cs vs :=
  ⟨h.1, fun i d v hd hv => (h.2 i d v hd hv).imp id fun x => ⟨x.1, x.2.mono hS hw⟩⟩
theorem MCs.congr {S : Nat → Nat → Prop} {w : World} {tm tm' : Nat → Value} {t : Nat} {cs : List D} {vs : List Value} (h : MCs S w tm t cs vs) (he : ∀ i, D.al (GF t i) ∈ cs → tm' (GF t i) = tm (GF t i)) : MCs S w tm' t cs vs :=
  ⟨h.1, fun i d v hd hv => (h.2 i d v hd hv).imp (fun x => ⟨x.1, by rw [he i (x.1 ▸ List.mem_of_getElem? hd)]; exact x.2⟩) id⟩

/-- one slot -/
def SR (P : Program) (S : Nat → Nat → Prop) (w : World) (O : Nat → Option Nat) (tm : Nat → Value) (t : Nat) (d : D) : Prop :=
  match d with
  | .un => O t = none
  | .al s => O t = none ∧ tm t = tm s
  | .rf s off => O t = none ∧ ∃ b, O s = some b ∧ tm t = .pointer (some ⟨b, off, none⟩)
  | .own wr e n ds => OwnR P S w (O t) (.own wr e n ds) (tm t)
  | .box wr ds => OwnR P S w (O t) (.box wr ds) (tm t)
  | .gbox G => ∃ b e, O t = some b ∧ tm t = .pointer (some ⟨b, 0, none⟩) ∧ w.heap[b]? = some (.cells #[tm G] e (0, 0)) ∧ (∀ j, ¬ S b j) ∧ GB ≤ G ∧ t < GB ∧ G = GB + t
  | .mbx cs => ∃ b arr e, O t = some b ∧ tm t = .pointer (some ⟨b, 0, none⟩) ∧ w.heap[b]? = some (.cells arr e (0, 0)) ∧ (∀ j, ¬ S b j) ∧ t < GB ∧ MCs S w tm t cs arr.toList
  | .mag cs => O t = none ∧ ∃ vs : List Value, tm t = .agg vs.toArray ∧ t < GB ∧ MCs S w tm t cs vs
  | d => O t = none ∧ Rep S w d (tm t)

def tmOf (gv : Nat → Value) (tm : Array Value) : Nat → Value := fun t => if t < GB then tm.getD t undef else gv t

theorem tmOf_lt {gv : Nat → Value} {tm : Array Value} {t : Nat} (h : t < GB) : tmOf gv tm t = tm.getD t undef := by unfold tmOf; rw [if_pos h]
theorem tmOf_ge {gv : Nat → Value} {tm : Array Value} {t : Nat} (h : GB ≤ t) : tmOf gv tm t = gv t := by unfold tmOf; rw [if_neg (by omega)]

/-- the frame's size; the slots that may be written; what the others hold; a world whose blocks that are no cells stand, and of whose cells some (fz) -/
structure Nz where
  n : Nat
  ok : Nat → Bool
  tm0 : Array Value
  wk : World
  gv : Nat → Value := fun _ => undef
  fz : Nat → Nat → Prop := fun _ _ => False
  fb : Nat → Prop := fun _ => False

def Nz.Has (z : Nz) (d : Nat) : Prop := d < z.n ∧ z.ok d = true

structure Inv (P : Program) (n : Nz) (S0 : Nat → Nat → Prop) (w0 : World) (S : Nat → Nat → Prop) (O : Nat → Option Nat) (g : G) (tm : Array Value) (w : World) : Prop where
  size : tm.size = n.n
  below : Below w0.heap.size w0 w
  sub : ∀ b o, S0 b o → S b o
  sup : ∀ b o, S b o → S0 b o ∨ w0.heap.size ≤ b
  ex : ∀ b o, S b o → b < w.heap.size
  inj : ∀ t t' b, O t = some b → O t' = some b → t = t'
  base : ∀ t b, O t = some b → w0.heap.size ≤ b ∧ b < w.heap.size
  slot : ∀ t, SR P S w O (tmOf n.gv tm) t (g t)
  fix : ∀ t, n.ok t = false → tm.getD t undef = n.tm0.getD t undef
  keep : ∀ (k : Nat) (o : Obj), n.wk.heap[k]? = some o → o.isCells = false → w.heap[k]? = some o
  nb : n.n ≤ GB
  gh : ∀ t, GB ≤ t → (g t).isPure = false
  fz : ∀ b o, n.fz b o → S b o ∧ w.cell? ⟨b, o, none⟩ = n.wk.cell? ⟨b, o, none⟩
  fb : ∀ b, n.fb b → (∀ t, O t ≠ some b) ∧ (∀ j, ¬ S b j) ∧ b < w.heap.size ∧ w.heap[b]? = n.wk.heap[b]?

def aliasOf : D → Option Nat
  | .al s => some s
  | .rf s _ => some s
  | _ => none

variable {P : Program} {n : Nz} {S0 S : Nat → Nat → Prop} {w0 w : World} {O : Nat → Option Nat} {g : G} {tm : Array Value}

theorem SR.pure_iff {t : Nat} {d : D} {f : Nat → Value} (hp : d.isPure = true) : SR P S w O f t d ↔ (O t = none ∧ Rep S w d (f t)) := by
  cases d <;> first | exact Iff.rfl | simp [D.isPure] at hp

theorem Inv.lt (h : Inv P n S0 w0 S O g tm w) {t : Nat} (hp : (g t).isPure = true) : t < GB := by
  rcases Nat.lt_or_ge t GB with h1 | h1
  · exact h1
  · rw [h.gh t h1] at hp; cases hp

theorem Inv.rep (h : Inv P n S0 w0 S O g tm w) {t : Nat} (hp : (g t).isPure = true) : Rep S w (g t) (tm.getD t undef) := by
  have := ((SR.pure_iff hp).1 (h.slot t)).2
  rwa [tmOf_lt (h.lt hp)] at this

theorem OwnR.grow {w' : World} {S' : Nat → Nat → Prop} {ob : Option Nat} {d : D} {v : Value} (h : OwnR P S w ob d v)
    (hS : ∀ b o, S b o → S' b o) (hS' : ∀ b o, ob = some b → S' b o → S b o) (hw : ∀ b o, S b o → w'.cell? ⟨b, o, none⟩ = w.cell? ⟨b, o, none⟩)
    (hb : ∀ b, ob = some b → w'.heap[b]? = w.heap[b]?) : OwnR P S' w' ob d v := by
  cases d <;> simp only [OwnR] at h ⊢
  · rcases h with h | ⟨b, cap, arr, rfl, h2, h3, h4, h5, h6, h7, h8, h9, h10, h11⟩
    · exact .inl h
    · exact .inr ⟨b, cap, arr, rfl, h2, by rw [hb b rfl]; exact h3, h4, h5, h6, h7, h8.mono hS hw, h9, fun j hj => h10 j (hS' _ _ rfl hj), fun hf j hj => hS _ _ (h11 hf j hj)⟩
  · obtain ⟨b, arr, e, rfl, h2, h3, h8, h9, h10, h11⟩ := h
    exact ⟨b, arr, e, rfl, h2, by rw [hb b rfl]; exact h3, h8.mono hS hw, h9, fun j hj => h10 j (hS' _ _ rfl hj), fun hf j hj => hS _ _ (h11 hf j hj)⟩

theorem SR.grow {w' : World} {S' : Nat → Nat → Prop} {t : Nat} {d : D} {f : Nat → Value} (h : SR P S w O f t d)
    (hS : ∀ b o, S b o → S' b o) (hS' : ∀ b o, O t = some b → S' b o → S b o) (hw : ∀ b o, S b o → w'.cell? ⟨b, o, none⟩ = w.cell? ⟨b, o, none⟩)
    (hb : ∀ b, O t = some b → w'.heap[b]? = w.heap[b]?) : SR P S' w' O f t d := by
  cases d <;> simp only [SR] at h ⊢
  all_goals first
    | exact h
    | exact ⟨h.1, h.2.mono hS hw⟩
    | exact OwnR.grow h hS hS' hw hb
    | (obtain ⟨b, e, h1, h2, h3, h4, h5⟩ := h; exact ⟨b, e, h1, h2, by rw [hb b h1]; exact h3, fun j hj => h4 j (hS' b j h1 hj), h5⟩)
    | (obtain ⟨b, arr, e, h1, h2, h3, h4, h5, h6⟩ := h; exact ⟨b, arr, e, h1, h2, by rw [hb b h1]; exact h3, fun j hj => h4 j (hS' b j h1 hj), h5, h6.mono hS hw⟩)
    | (obtain ⟨h1, vs, h2, h4, h3⟩ := h; exact ⟨h1, vs, h2, h4, h3.mono hS hw⟩)

theorem cell_of_heap {w w' : World} {b o : Nat} (h : w'.heap[b]? = w.heap[b]?) : w'.cell? ⟨b, o, none⟩ = w.cell? ⟨b, o, none⟩ :=
  World.cell?_of_block (w := w) (a := ⟨b, o, none⟩) h

/-- a block that is set apart is no new one, and none that a slot owns -/
theorem Inv.nfb_ge (h : Inv P n S0 w0 S O g tm w) {b : Nat} (hb : w.heap.size ≤ b) : ¬ n.fb b := fun x => by have := (h.fb b x).2.2.1; omega
theorem Inv.nfb_own (h : Inv P n S0 w0 S O g tm w) {t b : Nat} (hb : O t = some b) : ¬ n.fb b := fun x => (h.fb b x).1 t hb

/-- new blocks, draws: all that was there is as it was -/
theorem Inv.grow {w' : World} (h : Inv P n S0 w0 S O g tm w) (hb : ∀ k, k < w.heap.size → w'.heap[k]? = w.heap[k]?) (hbel : Below w0.heap.size w0 w') (hs : w.heap.size ≤ w'.heap.size) :
    Inv P n S0 w0 S O g tm w' where
  size := h.size
  below := hbel
  sub := h.sub
  sup := h.sup
  ex := fun b o hso => Nat.lt_of_lt_of_le (h.ex b o hso) hs
  inj := h.inj
  base := fun t b ht => ⟨(h.base t b ht).1, Nat.lt_of_lt_of_le (h.base t b ht).2 hs⟩
  fix := h.fix
  nb := h.nb
  gh := h.gh
  keep := fun k o hk ho => (hb k (Array.getElem?_eq_some_iff.1 (h.keep k o hk ho)).1).trans (h.keep k o hk ho)
  slot := fun t => (h.slot t).grow (fun _ _ x => x) (fun _ _ _ x => x) (fun b o hso => cell_of_heap (hb b (h.ex b o hso))) (fun b ht => hb b (h.base t b ht).2)
  fz := fun b o x => ⟨(h.fz b o x).1, (cell_of_heap (hb b (h.ex b o (h.fz b o x).1))).trans (h.fz b o x).2⟩
  fb := fun b x => ⟨(h.fb b x).1, (h.fb b x).2.1, Nat.lt_of_lt_of_le (h.fb b x).2.2.1 hs, (hb b (h.fb b x).2.2.1).trans (h.fb b x).2.2.2⟩

/-- more cells are settled: cells of blocks that no slot owns -/
theorem Inv.settle {S' : Nat → Nat → Prop} (h : Inv P n S0 w0 S O g tm w) (hS : ∀ b o, S b o → S' b o)
    (hS' : ∀ b o, S' b o → S b o ∨ (w0.heap.size ≤ b ∧ b < w.heap.size ∧ (∀ t, O t ≠ some b) ∧ ¬ n.fb b)) : Inv P n S0 w0 S' O g tm w where
  fb := fun b x => ⟨(h.fb b x).1, fun j hj => by
    rcases hS' b j hj with y | ⟨_, _, _, y⟩
    · exact (h.fb b x).2.1 j y
    · exact y x, (h.fb b x).2.2⟩
  size := h.size
  below := h.below
  fix := h.fix
  nb := h.nb
  gh := h.gh
  keep := h.keep
  fz := fun b o x => ⟨hS _ _ (h.fz b o x).1, (h.fz b o x).2⟩
  sub := fun b o x => hS _ _ (h.sub b o x)
  sup := fun b o x => by
    rcases hS' b o x with y | ⟨y, _, _, _⟩
    · exact h.sup b o y
    · exact .inr y
  ex := fun b o x => by
    rcases hS' b o x with y | ⟨_, y, _, _⟩
    · exact h.ex b o y
    · exact y
  inj := h.inj
  base := h.base
  slot := fun t => (h.slot t).grow hS (fun b o ht x => (hS' b o x).resolve_right fun y => y.2.2.1 t ht) (fun _ _ _ => rfl) (fun _ _ => rfl)

/-- slots are forgotten: whoever is another name for one of them is forgotten too -/
theorem Inv.drops (h : Inv P n S0 w0 S O g tm w) (ts : List Nat) (hal : ∀ t s, aliasOf (g t) = some s → s ∈ ts → t ∈ ts) :
    Inv P n S0 w0 S (fun t => if t ∈ ts then none else O t) (fun t => if t ∈ ts then .un else g t) tm w where
  fb := fun b x => ⟨fun t ht => by split at ht <;> first | (cases ht; done) | exact (h.fb b x).1 t ht, (h.fb b x).2⟩
  size := h.size
  below := h.below
  fix := h.fix
  nb := h.nb
  gh := fun t ht => by split <;> first | rfl | exact h.gh t ht
  keep := h.keep
  fz := h.fz
  sub := h.sub
  sup := h.sup
  ex := h.ex
  inj := fun t t' b ht ht' => by
    split at ht
    · cases ht
    · split at ht'
      · cases ht'
      · exact h.inj t t' b ht ht'
  base := fun t b ht => by
    split at ht
    · cases ht
    · exact h.base t b ht
  slot := fun t => by
    by_cases ht : t ∈ ts
    · simp [ht, SR]
    · have hs := h.slot t
      have ha := hal t
      cases hg : g t <;> simp only [ht, if_false, hg, SR, aliasOf] at hs ha ⊢
      all_goals first
        | exact hs
        | (simp only [if_false, ht]; exact hs)
        | skip
      · obtain ⟨h1, b, h2, h3⟩ := hs
        refine ⟨h1, b, ?_, h3⟩
        rw [if_neg (fun hm => (ha _ rfl hm).elim)]
        exact h2

/-- the same, by a test -/
theorem Inv.dropP (h : Inv P n S0 w0 S O g tm w) (p : Nat → Bool) (hal : ∀ t s, aliasOf (g t) = some s → p s = true → p t = true) :
    Inv P n S0 w0 S (fun t => if p t = true then none else O t) (fun t => if p t = true then .un else g t) tm w where
  fb := fun b x => ⟨fun t ht => by split at ht <;> first | (cases ht; done) | exact (h.fb b x).1 t ht, (h.fb b x).2⟩
  size := h.size
  below := h.below
  fix := h.fix
  nb := h.nb
  gh := fun t ht => by split <;> first | rfl | exact h.gh t ht
  keep := h.keep
  fz := h.fz
  sub := h.sub
  sup := h.sup
  ex := h.ex
  inj := fun t t' b ht ht' => by
    split at ht
    · cases ht
    · split at ht'
      · cases ht'
      · exact h.inj t t' b ht ht'
  base := fun t b ht => by
    split at ht
    · cases ht
    · exact h.base t b ht
  slot := fun t => by
    by_cases ht : p t = true
    · simp [ht, SR]
    · have hs := h.slot t
      have ha := hal t
      cases hg : g t <;> simp only [ht, if_false, hg, SR, aliasOf] at hs ha ⊢
      all_goals first
        | exact hs
        | (simp only [if_false, ht]; exact hs)
        | skip
      · obtain ⟨h1, b, h2, h3⟩ := hs
        refine ⟨h1, b, ?_, h3⟩
        rw [if_neg (fun hm => by simpa using ha _ rfl hm)]
        exact h2

/-- the values of forgotten slots may be any -/
theorem Inv.touch (h : Inv P n S0 w0 S O g tm w) {t : Nat} (v : Value) (hok : n.ok t = true) (hu : g t = .un) (hal : ∀ t' s, aliasOf (g t') = some s → s ≠ t) :
    Inv P n S0 w0 S O g (tm.setIfInBounds t v) w where
  size := by rw [Array.size_setIfInBounds]; exact h.size
  fb := h.fb
  below := h.below
  nb := h.nb
  gh := h.gh
  fix := fun t' ht' => by
    have e : t ≠ t' := fun e => by rw [← e, hok] at ht'; cases ht'
    rw [← h.fix t' ht']
    simp only [Array.getD_eq_getD_getElem?, Array.getElem?_setIfInBounds_ne e]
  keep := h.keep
  fz := h.fz
  sub := h.sub
  sup := h.sup
  ex := h.ex
  inj := h.inj
  base := h.base
  slot := fun t' => by
    have hs := h.slot t'
    have ha := hal t'
    by_cases ht : t' = t
    · subst ht
      rw [hu] at hs ⊢
      exact hs
    · have eq : ∀ t', t' ≠ t → tmOf n.gv (tm.setIfInBounds t v) t' = tmOf n.gv tm t' := fun t' ht => by
        simp only [tmOf, Array.getD_eq_getD_getElem?, Array.getElem?_setIfInBounds_ne (fun x => ht x.symm)]
      have e := eq t' ht
      cases hg : g t' <;> simp only [hg, SR, aliasOf] at hs ha ⊢
      all_goals first
        | exact hs
        | (rw [e]; exact hs)
        | skip
      · rename_i s
        refine ⟨hs.1, ?_⟩
        rw [e, hs.2, eq s (ha s rfl)]
      · rename_i G
        obtain ⟨b, ty, h1, h2, h3, h4, h5, h6⟩ := hs
        refine ⟨b, ty, h1, by rw [e]; exact h2, ?_, h4, h5, h6⟩
        rw [tmOf_ge h5] at h3 ⊢
        exact h3
      · obtain ⟨b, arr, ty, h1, h2, h3, h4, h5, h6⟩ := hs
        exact ⟨b, arr, ty, h1, by rw [e]; exact h2, h3, h4, h5, h6.congr fun i _ => by rw [tmOf_ge (GF_ge _ _), tmOf_ge (GF_ge _ _)]⟩
      · obtain ⟨h1, vs, h2, h4, h3⟩ := hs
        exact ⟨h1, vs, by rw [e]; exact h2, h4, h3.congr fun i _ => by rw [tmOf_ge (GF_ge _ _), tmOf_ge (GF_ge _ _)]⟩

theorem tmOf_set {gv : Nat → Value} (tm : Array Value) {t : Nat} (v : Value) (ht : t < tm.size) (hg : t < GB) : tmOf gv (tm.setIfInBounds t v) t = v := by
  rw [tmOf_lt hg]; simp [ht]

/-- a forgotten slot gets new data: a fact on that slot alone -/
theorem Inv.put {O' : Nat → Option Nat} (h : Inv P n S0 w0 S O g tm w) {t : Nat} {d : D} (hO : ∀ t', t' ≠ t → O' t' = O t') (hu : g t = .un) (hal : ∀ t' s, aliasOf (g t') = some s → s ≠ t)
    (hfresh : ∀ b, O' t = some b → w0.heap.size ≤ b ∧ b < w.heap.size ∧ (∀ t', O t' ≠ some b) ∧ ¬ n.fb b) (hd : SR P S w O' (tmOf n.gv tm) t d) (htg : t < GB ∨ d.isPure = false) :
    Inv P n S0 w0 S O' (upd g t d) tm w where
  fb := fun b x => ⟨fun t' ht => by
    by_cases e : t' = t
    · subst e; exact (hfresh b ht).2.2.2 x
    · rw [hO t' e] at ht; exact (h.fb b x).1 t' ht, (h.fb b x).2⟩
  size := h.size
  below := h.below
  fix := h.fix
  nb := h.nb
  gh := fun x hx => by
    unfold upd
    split
    · rename_i e; subst e; exact htg.resolve_left (by omega)
    · exact h.gh x hx
  keep := h.keep
  fz := h.fz
  sub := h.sub
  sup := h.sup
  ex := h.ex
  inj := fun x y b hx hy => by
    by_cases h1 : x = t
    · by_cases h2 : y = t
      · rw [h1, h2]
      · subst h1; rw [hO y h2] at hy; exact absurd hy ((hfresh b hx).2.2.1 y)
    · by_cases h2 : y = t
      · subst h2; rw [hO x h1] at hx; exact absurd hx ((hfresh b hy).2.2.1 x)
      · rw [hO x h1] at hx; rw [hO y h2] at hy; exact h.inj x y b hx hy
  base := fun x b hx => by
    by_cases h1 : x = t
    · subst h1; exact ⟨(hfresh b hx).1, (hfresh b hx).2.1⟩
    · rw [hO x h1] at hx; exact h.base x b hx
  slot := fun x => by
    by_cases h1 : x = t
    · subst h1; simp only [upd, if_true]; exact hd
    · simp only [upd, if_neg h1]
      have hs := h.slot x
      have ha := hal x
      cases hg : g x <;> simp only [hg, SR, aliasOf] at hs ha ⊢
      all_goals first
        | (rw [hO x h1]; exact hs)
        | skip
      · rename_i s off
        obtain ⟨e1, b, e2, e3⟩ := hs
        refine ⟨by rw [hO x h1]; exact e1, b, ?_, e3⟩
        rw [hO s (ha s rfl)]; exact e2

end Go.Pi

/-
  WHAT A SLOT OWNS: it is lent (no longer written), it is written, it is handed on. Own work.
-/
namespace Go.Pi
open Go Go.RowKit

variable {P : Program} {n : Nz} {S0 S : Nat → Nat → Prop} {w0 w : World} {O : Nat → Option Nat} {g : G} {tm : Array Value}

def D.owned : D → Bool
  | .own .. | .box .. => true
  | _ => false

theorem SR.owned_iff {t : Nat} {d : D} {f : Nat → Value} (hp : d.owned = true) : SR P S w O f t d ↔ OwnR P S w (O t) d (f t) := by
  cases d <;> first | exact Iff.rfl | simp [D.owned] at hp

/-- the memory that slot s owns is changed, or settled; all other slots stay -/
theorem Inv.ownChange {s b : Nat} {d' : D} {w' : World} {S' : Nat → Nat → Prop} (h : Inv P n S0 w0 S O g tm w) (hs : O s = some b) (hcl : ∃ arr e fr, w.heap[b]? = some (.cells arr e fr)) (hd' : d'.owned = true)
    (hS : ∀ b o, S b o → S' b o) (hS' : ∀ b' o, S' b' o → S b' o ∨ b' = b) (hw : ∀ k, k ≠ b → w'.heap[k]? = w.heap[k]?)
    (hc : ∀ o, S b o → w'.cell? ⟨b, o, none⟩ = w.cell? ⟨b, o, none⟩) (hsz : w'.heap.size = w.heap.size) (hos : w'.os = w.os) (htape : w'.tape = w.tape) (hout : w'.output = w.output)
    (hown : OwnR P S' w' (some b) d' (tmOf n.gv tm s)) : Inv P n S0 w0 S' O (upd g s d') tm w' where
  size := h.size
  below := h.below.trans ⟨hos, htape, hout, by omega, fun k hk => hw k (fun e => by have := (h.base s b hs).1; omega)⟩
  sub := fun b o x => hS _ _ (h.sub b o x)
  sup := fun b' o x => by
    rcases hS' b' o x with y | rfl
    · exact h.sup b' o y
    · exact .inr (h.base s b' hs).1
  ex := fun b' o x => by
    rw [hsz]
    rcases hS' b' o x with y | rfl
    · exact h.ex b' o y
    · exact (h.base s b' hs).2
  inj := h.inj
  fb := fun b' x => ⟨(h.fb b' x).1, fun j hj => by
    rcases hS' b' j hj with y | rfl
    · exact (h.fb b' x).2.1 j y
    · exact (h.fb b' x).1 s hs, by rw [hsz]; exact (h.fb b' x).2.2.1, (hw b' (fun e => by subst e; exact (h.fb b' x).1 s hs)).trans (h.fb b' x).2.2.2⟩
  fz := fun b' o x => ⟨hS _ _ (h.fz b' o x).1, (show w'.cell? ⟨b', o, none⟩ = w.cell? ⟨b', o, none⟩ by
    by_cases e : b' = b
    · subst e; exact hc o (h.fz _ o x).1
    · exact cell_of_heap (hw b' e)).trans (h.fz b' o x).2⟩
  fix := h.fix
  nb := h.nb
  gh := fun t ht => by
    unfold upd
    split
    · cases d' <;> first | rfl | simp [D.owned] at hd'
    · exact h.gh t ht
  keep := fun k o hk ho => by
    have h1 := h.keep k o hk ho
    by_cases e : k = b
    · subst e
      obtain ⟨arr, e, fr, h2⟩ := hcl
      rw [h2] at h1; cases h1; cases ho
    · rw [hw k e]; exact h1
  base := fun t b' ht => by rw [hsz]; exact h.base t b' ht
  slot := fun t => by
    by_cases ht : t = s
    · subst ht
      simp only [upd, if_true]
      rw [SR.owned_iff hd', hs]
      exact hown
    · simp only [upd, if_neg ht]
      have hcell : ∀ b' o, S b' o → w'.cell? ⟨b', o, none⟩ = w.cell? ⟨b', o, none⟩ := fun b' o x => by
        by_cases e : b' = b
        · subst e; exact hc o x
        · exact cell_of_heap (hw b' e)
      have hne : ∀ b', O t = some b' → b' ≠ b := fun b' h1 e => ht (h.inj t s b (e ▸ h1) hs)
      exact (h.slot t).grow hS (fun b' o h1 x => (hS' b' o x).resolve_right (hne b' h1)) hcell (fun b' h1 => hw b' (hne b' h1))

theorem upd_same (g : G) (s : Nat) : upd g s (g s) = g := by
  funext t; simp only [upd]; split
  · rename_i h; rw [h]
  · rfl

/-- what slot s owns is lent: from now on nobody writes it -/
theorem Inv.dull (h : Inv P n S0 w0 S O g tm w) (s : Nat) : ∃ S', Inv P n S0 w0 S' O (upd g s (g s).dull) tm w ∧ ∀ b o, S b o → S' b o := by
  have hs := h.slot s
  have triv : (g s).dull = g s → ∃ S', Inv P n S0 w0 S' O (upd g s (g s).dull) tm w ∧ ∀ b o, S b o → S' b o := fun e => by
    rw [e, upd_same]; exact ⟨S, h, fun _ _ x => x⟩
  cases hg : g s <;> (try (rw [hg] at triv; exact triv rfl))
  · rename_i wr e m ds
    rw [hg] at hs
    simp only [SR, OwnR] at hs
    rcases hs with ⟨h1, h2, rfl, rfl⟩ | ⟨b, cap, arr, h1, h2, h3, h4, h5, h6, h7, h8, h9, h10, h11⟩
    · -- nothing is owned
      refine ⟨S, ⟨h.size, h.below, h.sub, h.sup, h.ex, h.inj, h.base, fun t => ?_, h.fix, h.keep, h.nb, fun t ht => ?_, h.fz, h.fb⟩, fun _ _ x => x⟩
      rotate_left
      · unfold upd; split
        · rfl
        · exact h.gh t ht
      by_cases ht : t = s
      · subst ht; simp only [upd, if_true, D.dull, SR, OwnR]; exact .inl ⟨h1, h2, trivial, trivial⟩
      · simp only [upd, if_neg ht]; exact h.slot t
    · refine ⟨fun b' o => S b' o ∨ (b' = b ∧ o < ds.length), ?_, fun _ _ x => .inl x⟩
      refine h.ownChange h1 ⟨_, _, _, h3⟩ rfl (fun _ _ x => .inl x) (fun b' o x => x.imp id (·.1)) (fun _ _ => rfl) (fun _ _ => rfl) rfl rfl rfl rfl ?_
      simp only [D.dull, OwnR]
      refine .inr ⟨b, cap, arr, rfl, h2, h3, h4, h5, h6, h7, h8.mono (fun _ _ x => .inl x) (fun _ _ _ => rfl), h9, fun j hj => ⟨trivial, ?_⟩, fun _ j hj => .inr ⟨rfl, hj⟩⟩
      rcases hj with hj | ⟨_, hj⟩
      · exact (h10 j hj).2
      · exact hj
  · rename_i wr ds
    rw [hg] at hs
    simp only [SR, OwnR] at hs
    obtain ⟨b, arr, e, h1, h2, h3, h8, h9, h10, h11⟩ := hs
    refine ⟨fun b' o => S b' o ∨ (b' = b ∧ o < ds.length), ?_, fun _ _ x => .inl x⟩
    refine h.ownChange h1 ⟨_, _, _, h3⟩ rfl (fun _ _ x => .inl x) (fun b' o x => x.imp id (·.1)) (fun _ _ => rfl) (fun _ _ => rfl) rfl rfl rfl rfl ?_
    simp only [D.dull, OwnR]
    refine ⟨b, arr, e, rfl, h2, h3, h8.mono (fun _ _ x => .inl x) (fun _ _ _ => rfl), h9, fun j hj => ⟨trivial, ?_⟩, fun _ j hj => .inr ⟨rfl, hj⟩⟩
    rcases hj with hj | ⟨_, hj⟩
    · exact (h10 j hj).2
    · exact hj

/-- a row of a block that is settled -/
theorem Row.ofBlock {b : Nat} {arr : Array Value} {e : TypeId} {fr : Nat × Nat} {m : Nat} (h3 : w.heap[b]? = some (.cells arr e fr)) (hS : ∀ j, j < m → S b j) : Row S w b 0 (arr.toList.take m) := by
  intro i v hi
  rw [List.getElem?_take] at hi
  split at hi
  · rename_i him
    refine ⟨by simpa using hS i him, ?_⟩
    rw [Nat.zero_add, cell_of_row w b i arr e fr h3]
    simpa using hi
  · cases hi

/-- what is lent reads as a plain slice -/
theorem OwnR.rep {ob : Option Nat} {e : TypeId} {m : Nat} {ds : List D} {v : Value} (h : OwnR P S w ob (.own false e m ds) v) : Rep S w (.sl m ds) v := by
  simp only [OwnR] at h
  rcases h with ⟨_, rfl, rfl, rfl⟩ | ⟨b, cap, arr, _, rfl, h3, h4, h5, h6, h7, h8, h9, h10, h11⟩
  · exact .sl0 none 0 (Nat.zero_le _)
  · refine .sl m ds b 0 cap _ h8.1 h9 h4 h5 ?_ h8.2
    rw [← h7]
    exact Row.ofBlock h3 (fun j hj => h11 trivial j hj)

theorem OwnR.repPt {ob : Option Nat} {ds : List D} {v : Value} (h : OwnR P S w ob (.box false ds) v) : Rep S w (.pt ds) v := by
  simp only [OwnR] at h
  obtain ⟨b, arr, e, _, rfl, h3, h8, h9, h10, h11⟩ := h
  have hl : ds.length = arr.toList.length := h8.1
  refine .pt ds b 0 arr.toList hl h9 ?_ h8.2
  have := Row.ofBlock (S := S) (m := ds.length) h3 (fun j hj => h11 trivial j hj)
  rwa [hl, List.take_length] at this

end Go.Pi

/-
  OPERANDS; A SLOT GETS A PLAIN VALUE. Own work.
-/
namespace Go.Pi
open Go Go.RowKit

variable {P : Program} {n : Nz} {S0 S : Nat → Nat → Prop} {w0 w : World} {O : Nat → Option Nat} {g : G} {tm : Array Value}

def constOk : Value → D → Bool
  | .bool b, .bool b' => b == b'
  | .int k m, .int k' m' => k == k' && m == m'
  | .string s, .str l => s.data.toList == l && decide (l.length ≤ maxLen)
  | .slice none 0 0, .sl 0 [] => true
  | .slice none 0 0, .sl 0 [.un] => true
  | .nilIface, .err b => b
  | .pointer none, .nilp => true
  | .map none, .opq => true
  | _, _ => false

theorem constOk_rep {v : Value} {d : D} (h : constOk v d = true) : Rep S w d v := by
  unfold constOk at h
  split at h
  · simp at h; subst h; exact .bool _
  · simp at h; obtain ⟨rfl, rfl⟩ := h; exact .int _ _
  · rename_i s l
    simp at h
    obtain ⟨h1, h2⟩ := h
    subst h1
    have : (⟨s.data.toList.toArray⟩ : ByteArray) = s := by simp
    have r := Rep.str (S := S) (w := w) s.data.toList (by simpa using h2)
    rwa [this] at r
  · exact .sl0 _ _ (Nat.zero_le _)
  · exact .slN
  · subst h; exact .errN
  · exact .nilP
  · exact .opq _ rfl
  · cases h

def chkX : Operand → PX → Bool
  | .tmp t, .v t' => t == t' && decide (t < GB)
  | .tmp t, .o t' _ => t == t' && decide (t < GB)
  | .const v, .k d => constOk v d
  | .func f, .k (.clo f' []) => f == f'
  | _, _ => false

/-- the value of an operand -/
def rho (tm : Array Value) : Operand → Value
  | .tmp t => tm.getD t undef
  | .const v => v
  | .global g => .pointer (some ⟨g, 0, none⟩)
  | .func f => .func (.func f) #[] #[]

theorem eval_eq (a : Act) : a.eval = rho a.tmps := by funext x; cases x <;> rfl

theorem Inv.opnd (h : Inv P n S0 w0 S O g tm w) {y : Operand} {x : PX} (hx : chkX y x = true) (hp : (x.ev g).isPure = true) : Rep S w (x.ev g) (rho tm y) := by
  unfold chkX at hx
  split at hx
  · simp at hx; obtain ⟨rfl, hlt⟩ := hx; exact h.rep hp
  · rename_i t t' s
    simp at hx; obtain ⟨rfl, hlt⟩ := hx
    simp only [PX.ev] at hp ⊢
    have hs := h.slot t
    cases hg : g t <;> simp only [hg] at hp ⊢ <;> (try (simp [D.isPure] at hp; done))
    all_goals first
      | (have := h.rep (t := t) (by rw [hg]; exact hp); rw [hg] at this; exact this)
      | skip
    · rename_i s'
      by_cases e : s' = s
      · simp only [e, if_true] at hp ⊢
        rw [hg] at hs
        simp only [SR] at hs
        have := h.rep hp
        rw [e] at hs
        simp only [tmOf_lt hlt, tmOf_lt (h.lt hp)] at hs
        simp only [rho]
        rw [hs.2]
        exact this
      · simp [e, D.isPure] at hp
  · exact constOk_rep hx
  · simp at hx; subst hx
    exact .clo _ [] [] rfl (fun i d v hd => by simp at hd)
  · cases hx

theorem Inv.opndOwn (h : Inv P n S0 w0 S O g tm w) {y : Operand} {x : PX} (hx : chkX y x = true) (hp : (x.ev g).owned = true) :
    ∃ s, x.slot = some s ∧ g s = x.ev g ∧ OwnR P S w (O s) (x.ev g) (rho tm y) := by
  unfold chkX at hx
  split at hx
  · simp at hx; obtain ⟨rfl, hlt⟩ := hx
    refine ⟨_, rfl, rfl, ?_⟩
    have := (SR.owned_iff hp).1 (h.slot _)
    simp only [PX.ev] at this ⊢
    rwa [tmOf_lt hlt] at this
  · rename_i t t' s
    simp at hx; obtain ⟨rfl, hlt⟩ := hx
    simp only [PX.ev] at hp ⊢
    have hs := h.slot t
    refine ⟨s, rfl, ?_⟩
    cases hg : g t <;> simp only [hg] at hp ⊢ <;> (try (simp [D.owned] at hp; done))
    · rename_i s'
      by_cases e : s' = s
      · simp only [e, if_true] at hp ⊢
        rw [hg] at hs
        simp only [SR] at hs
        refine ⟨trivial, ?_⟩
        have := (SR.owned_iff hp).1 (h.slot s)
        rw [e] at hs
        simp only [rho]
        rw [show tm.getD t undef = tmOf n.gv tm s by rw [← hs.2, tmOf_lt hlt]]
        exact this
      · simp [e, D.owned] at hp
  · simp only [PX.ev] at hp
    rename_i v d
    unfold constOk at hx
    split at hx <;> first | (simp [D.owned] at hp; done) | cases hx
  · simp [PX.ev, D.owned] at hp
  · cases hx

end Go.Pi

/-
  A SLOT GETS A VALUE: plain, owned, or another name. Own work.
-/
namespace Go.Pi
open Go Go.RowKit

variable {P : Program} {n : Nz} {S0 S : Nat → Nat → Prop} {w0 w : World} {O : Nat → Option Nat} {g : G} {tm : Array Value}

def Good (P : Program) (n : Nz) (S0 : Nat → Nat → Prop) (w0 : World) (g : G) (tm : Array Value) (w : World) : Prop := ∃ S O gv, Inv P { n with gv := gv } S0 w0 S O g tm w

/-- the world goes on: what is owned and what is settled stays -/
theorem Inv.world {w' : World} (h : Inv P n S0 w0 S O g tm w) (hb : ∀ t b, O t = some b → w'.heap[b]? = w.heap[b]?) (hc : ∀ b o, S b o → w'.cell? ⟨b, o, none⟩ = w.cell? ⟨b, o, none⟩)
    (hbel : Below w0.heap.size w0 w') (hs : w.heap.size ≤ w'.heap.size) (hk : ∀ (k : Nat) (o : Obj), w.heap[k]? = some o → o.isCells = false → w'.heap[k]? = some o) (hf : ∀ b, n.fb b → w'.heap[b]? = w.heap[b]?) : Inv P n S0 w0 S O g tm w' where
  fb := fun b x => ⟨(h.fb b x).1, (h.fb b x).2.1, Nat.lt_of_lt_of_le (h.fb b x).2.2.1 hs, (hf b x).trans (h.fb b x).2.2.2⟩
  size := h.size
  below := hbel
  sub := h.sub
  sup := h.sup
  ex := fun b o hso => Nat.lt_of_lt_of_le (h.ex b o hso) hs
  inj := h.inj
  fix := h.fix
  nb := h.nb
  gh := h.gh
  fz := fun b o x => ⟨(h.fz b o x).1, (hc b o (h.fz b o x).1).trans (h.fz b o x).2⟩
  keep := fun k o h1 h2 => hk k o (h.keep k o h1 h2) h2
  base := fun t b ht => ⟨(h.base t b ht).1, Nat.lt_of_lt_of_le (h.base t b ht).2 hs⟩
  slot := fun t => (h.slot t).grow (fun _ _ x => x) (fun _ _ _ x => x) hc (fun b ht => hb t b ht)

structure Ext (w0 w w' : World) : Prop where
  blocks : ∀ k, k < w.heap.size → w'.heap[k]? = w.heap[k]?
  below : Below w0.heap.size w0 w'
  le : w.heap.size ≤ w'.heap.size

theorem Inv.extRefl (h : Inv P n S0 w0 S O g tm w) : Ext w0 w w := ⟨fun _ _ => rfl, h.below, Nat.le_refl _⟩
theorem Ext.alloc {w' : World} (h : Ext w0 w w') (h0 : w0.heap.size ≤ w'.heap.size) (o : Obj) : Ext w0 w (w'.alloc o) :=
  ⟨fun k hk => (Below.heap_alloc w' o k (Nat.lt_of_lt_of_le hk h.le)).trans (h.blocks k hk), h.below.alloc h0 o, by simp; exact Nat.le_succ_of_le h.le⟩
theorem Ext.drew {w' : World} (h : Ext w0 w w') : Ext w0 w w'.drew := ⟨h.blocks, h.below.drew, h.le⟩

theorem Inv.ext {w' : World} (h : Inv P n S0 w0 S O g tm w) (hx : Ext w0 w w') : Inv P n S0 w0 S O g tm w' := h.grow hx.blocks hx.below hx.le

theorem Inv.has (h : Inv P n S0 w0 S O g tm w) {t : Nat} (ht : n.Has t) : t < GB := Nat.lt_of_lt_of_le ht.1 h.nb

/-- the forgetting of one slot and a new value in it -/
theorem Inv.clear (h : Inv P n S0 w0 S O g tm w) (t : Nat) (v : Value) (hok : n.ok t = true) (hal : ∀ t' s, aliasOf (g t') = some s → s = t → t' = t) :
    Inv P n S0 w0 S (fun t' => if t' = t then none else O t') (upd g t .un) (tm.setIfInBounds t v) w := by
  have h1 := h.drops [t] (fun t' s h1 h2 => by simp at h2 ⊢; exact hal t' s h1 h2)
  have e1 : (fun t' => if t' ∈ [t] then none else O t') = (fun t' => if t' = t then none else O t') := by funext x; simp
  have e2 : (fun t' => if t' ∈ [t] then D.un else g t') = upd g t .un := by funext x; simp [upd]
  rw [e1, e2] at h1
  exact h1.touch v hok (by simp [upd]) (fun t' s h2 e => by
    subst e
    unfold upd at h2
    split at h2
    · cases h2
    · rename_i hne; exact hne (hal t' s h2 rfl))

theorem upd_upd (g : G) (t : Nat) (a b : D) : upd (upd g t a) t b = upd g t b := by
  funext x; simp only [upd]; split <;> rfl

theorem noAlias_clear {t : Nat} (hal : ∀ t' s, aliasOf (g t') = some s → s = t → t' = t) : ∀ t' s, aliasOf (upd g t .un t') = some s → s ≠ t := fun t' s h2 e => by
  subst e
  unfold upd at h2
  split at h2
  · cases h2
  · rename_i hne; exact hne (hal t' s h2 rfl)

/-- a plain value, in a world that has grown -/
theorem Inv.setPure {w' : World} {S' : Nat → Nat → Prop} {d : D} {v : Value} {dst : Nat} (h : Inv P n S0 w0 S O g tm w) (hx : Ext w0 w w') (hS : ∀ b o, S b o → S' b o)
    (hS' : ∀ b o, S' b o → S b o ∨ (w.heap.size ≤ b ∧ b < w'.heap.size)) (hr : Rep S' w' d v) (hdst : n.Has dst) (hal : ∀ t' s, aliasOf (g t') = some s → s = dst → t' = dst) :
    Inv P n S0 w0 S' (fun t' => if t' = dst then none else O t') (upd g dst d) (tm.setIfInBounds dst v) w' := by
  have h1 := h.ext hx
  have h2 : Inv P n S0 w0 S' O g tm w' := h1.settle hS (fun b o x => (hS' b o x).imp id fun y =>
    ⟨Nat.le_trans h.below.size y.1, y.2, fun t e => by have := (h.base t b e).2; omega, h.nfb_ge y.1⟩)
  have h3 := h2.clear dst v hdst.2 hal
  have h4 := h3.put (O' := fun t' => if t' = dst then none else O t') (t := dst) (d := d) (fun _ _ => rfl) (by simp [upd]) (noAlias_clear hal) (fun b e => by simp at e)
    ((SR.pure_iff hr.pure).2 ⟨by simp, by rw [tmOf_set _ _ (by rw [h.size]; exact hdst.1) (h.has hdst)]; exact hr⟩) (.inl (h.has hdst))
  rwa [upd_upd] at h4

/-- an owned value in a new block -/
theorem Inv.setOwn {w' : World} {d : D} {v : Value} {dst : Nat} {ob : Option Nat} (h : Inv P n S0 w0 S O g tm w) (hx : Ext w0 w w') (hd : d.owned = true)
    (hr : OwnR P S w' ob d v) (hob : ∀ b, ob = some b → w.heap.size ≤ b ∧ b < w'.heap.size) (hdst : n.Has dst) (hal : ∀ t' s, aliasOf (g t') = some s → s = dst → t' = dst) :
    Inv P n S0 w0 S (fun t' => if t' = dst then ob else O t') (upd g dst d) (tm.setIfInBounds dst v) w' := by
  have h1 := h.ext hx
  have h3 := h1.clear dst v hdst.2 hal
  have h4 := h3.put (O' := fun t' => if t' = dst then ob else O t') (t := dst) (d := d) (fun t' e => by simp [e]) (by simp [upd]) (noAlias_clear hal)
    (fun b e => by
      simp only [if_true] at e
      refine ⟨Nat.le_trans h.below.size (hob b e).1, (hob b e).2, fun t' e' => ?_, h.nfb_ge (hob b e).1⟩
      split at e'
      · cases e'
      · have := (h.base t' b e').2; have := (hob b e).1; omega)
    ((SR.owned_iff hd).2 (by simp only [if_true]; rw [tmOf_set _ _ (by rw [h.size]; exact hdst.1) (h.has hdst)]; exact hr)) (.inl (h.has hdst))
  rwa [upd_upd] at h4

/-- another name for slot s -/
theorem Inv.setAl {v : Value} {dst s : Nat} (h : Inv P n S0 w0 S O g tm w) (hv : v = tmOf n.gv tm s) (hne : s ≠ dst) (hdst : n.Has dst) (hal : ∀ t' s, aliasOf (g t') = some s → s = dst → t' = dst) :
    Inv P n S0 w0 S (fun t' => if t' = dst then none else O t') (upd g dst (.al s)) (tm.setIfInBounds dst v) w := by
  have h3 := h.clear dst v hdst.2 hal
  have h4 := h3.put (O' := fun t' => if t' = dst then none else O t') (t := dst) (d := .al s) (fun _ _ => rfl) (by simp [upd]) (noAlias_clear hal) (fun b e => by simp at e)
    (by
      simp only [SR]
      refine ⟨by simp, ?_⟩
      rw [tmOf_set _ _ (by rw [h.size]; exact hdst.1) (h.has hdst), hv]
      simp [tmOf, Array.getElem?_setIfInBounds_ne (fun e : dst = s => hne e.symm)]) (.inl (h.has hdst))
  rwa [upd_upd] at h4

/-- an address in what slot s owns -/
theorem Inv.setRf {b dst s off : Nat} (h : Inv P n S0 w0 S O g tm w) (hs : O s = some b) (hne : s ≠ dst) (hdst : n.Has dst) (hal : ∀ t' s, aliasOf (g t') = some s → s = dst → t' = dst) :
    Inv P n S0 w0 S (fun t' => if t' = dst then none else O t') (upd g dst (.rf s off)) (tm.setIfInBounds dst (.pointer (some ⟨b, off, none⟩))) w := by
  have h3 := h.clear dst (.pointer (some ⟨b, off, none⟩)) hdst.2 hal
  have h4 := h3.put (O' := fun t' => if t' = dst then none else O t') (t := dst) (d := .rf s off) (fun _ _ => rfl) (by simp [upd]) (noAlias_clear hal) (fun b e => by simp at e)
    (by
      simp only [SR]
      refine ⟨by simp, b, ?_, ?_⟩
      · rw [if_neg hne]; exact hs
      · rw [tmOf_set _ _ (by rw [h.size]; exact hdst.1) (h.has hdst)]) (.inl (h.has hdst))
  rwa [upd_upd] at h4

end Go.Pi
