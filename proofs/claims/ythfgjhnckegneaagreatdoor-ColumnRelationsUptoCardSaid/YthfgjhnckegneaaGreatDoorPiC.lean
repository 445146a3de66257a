/-
  WHEN A FRAME OF THE MODEL IS READ RIGHTLY BY DATA: the invariant, and the ways in which it is kept. Own work.
-/
import Derived.Test.YthfgjhnckegneaaGreatDoorPiB
import Derived.RangeFuncNested
namespace Go.Pi
open Go Go.RowKit

/-- own memory of a slot -/
def OwnR (P : Program) (S : Nat → Nat → Prop) (w : World) (ob : Option Nat) (d : D) (v : Value) : Prop :=
  match d with
  | .own wr e n ds =>
    (ob = none ∧ v = .slice none 0 0 ∧ n = 0 ∧ ds = []) ∨
    ∃ b cap arr, ob = some b ∧ v = .slice (some ⟨b, 0, none⟩) n cap ∧ w.heap[b]? = some (.cells arr e (0, 0)) ∧ n ≤ cap ∧ cap ≤ maxLen ∧ arr.size = cap * P.cellsOf e ∧ ds.length = n * P.cellsOf e ∧
      Reps S w ds (arr.toList.take (n * P.cellsOf e)) ∧ (∀ d ∈ ds, d.one = true) ∧ (∀ j, S b j → wr = false ∧ j < ds.length) ∧ (wr = false → ∀ j, j < ds.length → S b j)
  | .box wr ds =>
    ∃ b arr e, ob = some b ∧ v = .pointer (some ⟨b, 0, none⟩) ∧ w.heap[b]? = some (.cells arr e (0, 0)) ∧
      Reps S w ds arr.toList ∧ (∀ d ∈ ds, d.one = true) ∧ (∀ j, S b j → wr = false ∧ j < ds.length) ∧ (wr = false → ∀ j, j < ds.length → S b j)
  | _ => False

/-- one slot -/
def SR (P : Program) (S : Nat → Nat → Prop) (w : World) (O : Nat → Option Nat) (tm : Nat → Value) (t : Nat) (d : D) : Prop :=
  match d with
  | .un => O t = none
  | .al s => O t = none ∧ tm t = tm s
  | .rf s off => O t = none ∧ ∃ b, O s = some b ∧ tm t = .pointer (some ⟨b, off, none⟩)
  | .own wr e n ds => OwnR P S w (O t) (.own wr e n ds) (tm t)
  | .box wr ds => OwnR P S w (O t) (.box wr ds) (tm t)
  | .gbox G => ∃ b e, O t = some b ∧ tm t = .pointer (some ⟨b, 0, none⟩) ∧ w.heap[b]? = some (.cells #[tm G] e (0, 0)) ∧ (∀ j, ¬ S b j) ∧ GB ≤ G ∧ t < GB ∧ G = GB + t
  | d => O t = none ∧ Rep S w d (tm t)

def tmOf (gv : Nat → Value) (tm : Array Value) : Nat → Value := fun t => if t < GB then tm.getD t undef else gv t

theorem tmOf_lt {gv : Nat → Value} {tm : Array Value} {t : Nat} (h : t < GB) : tmOf gv tm t = tm.getD t undef := by unfold tmOf; rw [if_pos h]
theorem tmOf_ge {gv : Nat → Value} {tm : Array Value} {t : Nat} (h : GB ≤ t) : tmOf gv tm t = gv t := by unfold tmOf; rw [if_neg (by omega)]

/-- the frame's size; the slots that may be written; what the others hold; a world whose blocks that are no cells stand -/
structure Nz where
  n : Nat
  ok : Nat → Bool
  tm0 : Array Value
  wk : World
  gv : Nat → Value := fun _ => undef

def Nz.Has (z : Nz) (d : Nat) : Prop := d < z.n ∧ z.ok d = true

structure Inv (P : Program) (n : Nz) (S0 : Nat → Nat → Prop) (w0 : World) (S : Nat → Nat → Prop) (O : Nat → Option Nat) (g : G) (tm : Array Value) (w : World) : Prop where
  size : tm.size = n.n
  below : Below w0.heap.size w0 w
  sub : ∀ b o, S0 b o → S b o
  sup : ∀ b o, S b o → S0 b o ∨ w0.heap.size ≤ b
  ex : ∀ b o, S b o → b < w.heap.size
  inj : ∀ t t' b, O t = some b → O t' = some b → t = t'
  base : ∀ t b, O t = some b → w0.heap.size ≤ b ∧ b < w.heap.size
  slot : ∀ t, SR P S w O (tmOf n.gv tm) t (g t)
  fix : ∀ t, n.ok t = false → tm.getD t undef = n.tm0.getD t undef
  keep : ∀ (k : Nat) (o : Obj), n.wk.heap[k]? = some o → o.isCells = false → w.heap[k]? = some o
  nb : n.n ≤ GB
  gh : ∀ t, GB ≤ t → (g t).isPure = false

def aliasOf : D → Option Nat
  | .al s => some s
  | .rf s _ => some s
  | _ => none

variable {P : Program} {n : Nz} {S0 S : Nat → Nat → Prop} {w0 w : World} {O : Nat → Option Nat} {g : G} {tm : Array Value}

theorem SR.pure_iff {t : Nat} {d : D} {f : Nat → Value} (hp : d.isPure = true) : SR P S w O f t d ↔ (O t = none ∧ Rep S w d (f t)) := by
  cases d <;> first | exact Iff.rfl | simp [D.isPure] at hp

theorem Inv.lt (h : Inv P n S0 w0 S O g tm w) {t : Nat} (hp : (g t).isPure = true) : t < GB := by
  rcases Nat.lt_or_ge t GB with h1 | h1
  · exact h1
  · rw [h.gh t h1] at hp; cases hp

theorem Inv.rep (h : Inv P n S0 w0 S O g tm w) {t : Nat} (hp : (g t).isPure = true) : Rep S w (g t) (tm.getD t undef) := by
  have := ((SR.pure_iff hp).1 (h.slot t)).2
  rwa [tmOf_lt (h.lt hp)] at this

theorem OwnR.grow {w' : World} {S' : Nat → Nat → Prop} {ob : Option Nat} {d : D} {v : Value} (h : OwnR P S w ob d v)
    (hS : ∀ b o, S b o → S' b o) (hS' : ∀ b o, ob = some b → S' b o → S b o) (hw : ∀ b o, S b o → w'.cell? ⟨b, o, none⟩ = w.cell? ⟨b, o, none⟩)
    (hb : ∀ b, ob = some b → w'.heap[b]? = w.heap[b]?) : OwnR P S' w' ob d v := by
  cases d <;> simp only [OwnR] at h ⊢
  · rcases h with h | ⟨b, cap, arr, rfl, h2, h3, h4, h5, h6, h7, h8, h9, h10, h11⟩
    · exact .inl h
    · exact .inr ⟨b, cap, arr, rfl, h2, by rw [hb b rfl]; exact h3, h4, h5, h6, h7, h8.mono hS hw, h9, fun j hj => h10 j (hS' _ _ rfl hj), fun hf j hj => hS _ _ (h11 hf j hj)⟩
  · obtain ⟨b, arr, e, rfl, h2, h3, h8, h9, h10, h11⟩ := h
    exact ⟨b, arr, e, rfl, h2, by rw [hb b rfl]; exact h3, h8.mono hS hw, h9, fun j hj => h10 j (hS' _ _ rfl hj), fun hf j hj => hS _ _ (h11 hf j hj)⟩

theorem SR.grow {w' : World} {S' : Nat → Nat → Prop} {t : Nat} {d : D} {f : Nat → Value} (h : SR P S w O f t d)
    (hS : ∀ b o, S b o → S' b o) (hS' : ∀ b o, O t = some b → S' b o → S b o) (hw : ∀ b o, S b o → w'.cell? ⟨b, o, none⟩ = w.cell? ⟨b, o, none⟩)
    (hb : ∀ b, O t = some b → w'.heap[b]? = w.heap[b]?) : SR P S' w' O f t d := by
  cases d <;> simp only [SR] at h ⊢
  all_goals first
    | exact h
    | exact ⟨h.1, h.2.mono hS hw⟩
    | exact OwnR.grow h hS hS' hw hb
    | (obtain ⟨b, e, h1, h2, h3, h4, h5⟩ := h; exact ⟨b, e, h1, h2, by rw [hb b h1]; exact h3, fun j hj => h4 j (hS' b j h1 hj), h5⟩)

theorem cell_of_heap {w w' : World} {b o : Nat} (h : w'.heap[b]? = w.heap[b]?) : w'.cell? ⟨b, o, none⟩ = w.cell? ⟨b, o, none⟩ :=
  World.cell?_of_block (w := w) (a := ⟨b, o, none⟩) h

/-- new blocks, draws: all that was there is as it was -/
theorem Inv.grow {w' : World} (h : Inv P n S0 w0 S O g tm w) (hb : ∀ k, k < w.heap.size → w'.heap[k]? = w.heap[k]?) (hbel : Below w0.heap.size w0 w') (hs : w.heap.size ≤ w'.heap.size) :
    Inv P n S0 w0 S O g tm w' where
  size := h.size
  below := hbel
  sub := h.sub
  sup := h.sup
  ex := fun b o hso => Nat.lt_of_lt_of_le (h.ex b o hso) hs
  inj := h.inj
  base := fun t b ht => ⟨(h.base t b ht).1, Nat.lt_of_lt_of_le (h.base t b ht).2 hs⟩
  fix := h.fix
  nb := h.nb
  gh := h.gh
  keep := fun k o hk ho => (hb k (Array.getElem?_eq_some_iff.1 (h.keep k o hk ho)).1).trans (h.keep k o hk ho)
  slot := fun t => (h.slot t).grow (fun _ _ x => x) (fun _ _ _ x => x) (fun b o hso => cell_of_heap (hb b (h.ex b o hso))) (fun b ht => hb b (h.base t b ht).2)

/-- more cells are settled: cells of blocks that no slot owns -/
theorem Inv.settle {S' : Nat → Nat → Prop} (h : Inv P n S0 w0 S O g tm w) (hS : ∀ b o, S b o → S' b o)
    (hS' : ∀ b o, S' b o → S b o ∨ (w0.heap.size ≤ b ∧ b < w.heap.size ∧ ∀ t, O t ≠ some b)) : Inv P n S0 w0 S' O g tm w where
  size := h.size
  below := h.below
  fix := h.fix
  nb := h.nb
  gh := h.gh
  keep := h.keep
  sub := fun b o x => hS _ _ (h.sub b o x)
  sup := fun b o x => by
    rcases hS' b o x with y | ⟨y, _, _⟩
    · exact h.sup b o y
    · exact .inr y
  ex := fun b o x => by
    rcases hS' b o x with y | ⟨_, y, _⟩
    · exact h.ex b o y
    · exact y
  inj := h.inj
  base := h.base
  slot := fun t => (h.slot t).grow hS (fun b o ht x => (hS' b o x).resolve_right fun y => y.2.2 t ht) (fun _ _ _ => rfl) (fun _ _ => rfl)

/-- slots are forgotten: whoever is another name for one of them is forgotten too -/
theorem Inv.drops (h : Inv P n S0 w0 S O g tm w) (ts : List Nat) (hal : ∀ t s, aliasOf (g t) = some s → s ∈ ts → t ∈ ts) :
    Inv P n S0 w0 S (fun t => if t ∈ ts then none else O t) (fun t => if t ∈ ts then .un else g t) tm w where
  size := h.size
  below := h.below
  fix := h.fix
  nb := h.nb
  gh := fun t ht => by split <;> first | rfl | exact h.gh t ht
  keep := h.keep
  sub := h.sub
  sup := h.sup
  ex := h.ex
  inj := fun t t' b ht ht' => by
    split at ht
    · cases ht
    · split at ht'
      · cases ht'
      · exact h.inj t t' b ht ht'
  base := fun t b ht => by
    split at ht
    · cases ht
    · exact h.base t b ht
  slot := fun t => by
    by_cases ht : t ∈ ts
    · simp [ht, SR]
    · have hs := h.slot t
      have ha := hal t
      cases hg : g t <;> simp only [ht, if_false, hg, SR, aliasOf] at hs ha ⊢
      all_goals first
        | exact hs
        | (simp only [if_false, ht]; exact hs)
        | skip
      · obtain ⟨h1, b, h2, h3⟩ := hs
        refine ⟨h1, b, ?_, h3⟩
        rw [if_neg (fun hm => (ha _ rfl hm).elim)]
        exact h2

/-- the same, by a test -/
theorem Inv.dropP (h : Inv P n S0 w0 S O g tm w) (p : Nat → Bool) (hal : ∀ t s, aliasOf (g t) = some s → p s = true → p t = true) :
    Inv P n S0 w0 S (fun t => if p t = true then none else O t) (fun t => if p t = true then .un else g t) tm w where
  size := h.size
  below := h.below
  fix := h.fix
  nb := h.nb
  gh := fun t ht => by split <;> first | rfl | exact h.gh t ht
  keep := h.keep
  sub := h.sub
  sup := h.sup
  ex := h.ex
  inj := fun t t' b ht ht' => by
    split at ht
    · cases ht
    · split at ht'
      · cases ht'
      · exact h.inj t t' b ht ht'
  base := fun t b ht => by
    split at ht
    · cases ht
    · exact h.base t b ht
  slot := fun t => by
    by_cases ht : p t = true
    · simp [ht, SR]
    · have hs := h.slot t
      have ha := hal t
      cases hg : g t <;> simp only [ht, if_false, hg, SR, aliasOf] at hs ha ⊢
      all_goals first
        | exact hs
        | (simp only [if_false, ht]; exact hs)
        | skip
      · obtain ⟨h1, b, h2, h3⟩ := hs
        refine ⟨h1, b, ?_, h3⟩
        rw [if_neg (fun hm => by simpa using ha _ rfl hm)]
        exact h2

/-- the values of forgotten slots may be any -/
theorem Inv.touch (h : Inv P n S0 w0 S O g tm w) {t : Nat} (v : Value) (hok : n.ok t = true) (hu : g t = .un) (hal : ∀ t' s, aliasOf (g t') = some s → s ≠ t) :
    Inv P n S0 w0 S O g (tm.setIfInBounds t v) w where
  size := by rw [Array.size_setIfInBounds]; exact h.size
  below := h.below
  nb := h.nb
  gh := h.gh
  fix := fun t' ht' => by
    have e : t ≠ t' := fun e => by rw [← e, hok] at ht'; cases ht'
    rw [← h.fix t' ht']
    simp only [Array.getD_eq_getD_getElem?, Array.getElem?_setIfInBounds_ne e]
  keep := h.keep
  sub := h.sub
  sup := h.sup
  ex := h.ex
  inj := h.inj
  base := h.base
  slot := fun t' => by
    have hs := h.slot t'
    have ha := hal t'
    by_cases ht : t' = t
    · subst ht
      rw [hu] at hs ⊢
      exact hs
    · have eq : ∀ t', t' ≠ t → tmOf n.gv (tm.setIfInBounds t v) t' = tmOf n.gv tm t' := fun t' ht => by
        simp only [tmOf, Array.getD_eq_getD_getElem?, Array.getElem?_setIfInBounds_ne (fun x => ht x.symm)]
      have e := eq t' ht
      cases hg : g t' <;> simp only [hg, SR, aliasOf] at hs ha ⊢
      all_goals first
        | exact hs
        | (rw [e]; exact hs)
        | skip
      · rename_i s
        refine ⟨hs.1, ?_⟩
        rw [e, hs.2, eq s (ha s rfl)]
      · rename_i G
        obtain ⟨b, ty, h1, h2, h3, h4, h5, h6⟩ := hs
        refine ⟨b, ty, h1, by rw [e]; exact h2, ?_, h4, h5, h6⟩
        rw [tmOf_ge h5] at h3 ⊢
        exact h3

theorem tmOf_set {gv : Nat → Value} (tm : Array Value) {t : Nat} (v : Value) (ht : t < tm.size) (hg : t < GB) : tmOf gv (tm.setIfInBounds t v) t = v := by
  rw [tmOf_lt hg]; simp [ht]

/-- a forgotten slot gets new data: a fact on that slot alone -/
theorem Inv.put {O' : Nat → Option Nat} (h : Inv P n S0 w0 S O g tm w) {t : Nat} {d : D} (hO : ∀ t', t' ≠ t → O' t' = O t') (hu : g t = .un) (hal : ∀ t' s, aliasOf (g t') = some s → s ≠ t)
    (hfresh : ∀ b, O' t = some b → w0.heap.size ≤ b ∧ b < w.heap.size ∧ ∀ t', O t' ≠ some b) (hd : SR P S w O' (tmOf n.gv tm) t d) (htg : t < GB ∨ d.isPure = false) :
    Inv P n S0 w0 S O' (upd g t d) tm w where
  size := h.size
  below := h.below
  fix := h.fix
  nb := h.nb
  gh := fun x hx => by
    unfold upd
    split
    · rename_i e; subst e; exact htg.resolve_left (by omega)
    · exact h.gh x hx
  keep := h.keep
  sub := h.sub
  sup := h.sup
  ex := h.ex
  inj := fun x y b hx hy => by
    by_cases h1 : x = t
    · by_cases h2 : y = t
      · rw [h1, h2]
      · subst h1; rw [hO y h2] at hy; exact absurd hy ((hfresh b hx).2.2 y)
    · by_cases h2 : y = t
      · subst h2; rw [hO x h1] at hx; exact absurd hx ((hfresh b hy).2.2 x)
      · rw [hO x h1] at hx; rw [hO y h2] at hy; exact h.inj x y b hx hy
  base := fun x b hx => by
    by_cases h1 : x = t
    · subst h1; exact ⟨(hfresh b hx).1, (hfresh b hx).2.1⟩
    · rw [hO x h1] at hx; exact h.base x b hx
  slot := fun x => by
    by_cases h1 : x = t
    · subst h1; simp only [upd, if_true]; exact hd
    · simp only [upd, if_neg h1]
      have hs := h.slot x
      have ha := hal x
      cases hg : g x <;> simp only [hg, SR, aliasOf] at hs ha ⊢
      all_goals first
        | (rw [hO x h1]; exact hs)
        | skip
      · rename_i s off
        obtain ⟨e1, b, e2, e3⟩ := hs
        refine ⟨by rw [hO x h1]; exact e1, b, ?_, e3⟩
        rw [hO s (ha s rfl)]; exact e2

end Go.Pi
