/-
  A SLOT GETS A VALUE: plain, owned, or another name. Own work.
-/
import Derived.Test.YthfgjhnckegneaaGreatDoorPiE
namespace Go.Pi
open Go Go.RowKit

variable {P : Program} {n : Nz} {S0 S : Nat → Nat → Prop} {w0 w : World} {O : Nat → Option Nat} {g : G} {tm : Array Value}

def Good (P : Program) (n : Nz) (S0 : Nat → Nat → Prop) (w0 : World) (g : G) (tm : Array Value) (w : World) : Prop := ∃ S O gv, Inv P { n with gv := gv } S0 w0 S O g tm w

/-- the world goes on: what is owned and what is settled stays -/
theorem Inv.world {w' : World} (h : Inv P n S0 w0 S O g tm w) (hb : ∀ t b, O t = some b → w'.heap[b]? = w.heap[b]?) (hc : ∀ b o, S b o → w'.cell? ⟨b, o, none⟩ = w.cell? ⟨b, o, none⟩)
    (hbel : Below w0.heap.size w0 w') (hs : w.heap.size ≤ w'.heap.size) (hk : ∀ (k : Nat) (o : Obj), w.heap[k]? = some o → o.isCells = false → w'.heap[k]? = some o) : Inv P n S0 w0 S O g tm w' where
  size := h.size
  below := hbel
  sub := h.sub
  sup := h.sup
  ex := fun b o hso => Nat.lt_of_lt_of_le (h.ex b o hso) hs
  inj := h.inj
  fix := h.fix
  nb := h.nb
  gh := h.gh
  keep := fun k o h1 h2 => hk k o (h.keep k o h1 h2) h2
  base := fun t b ht => ⟨(h.base t b ht).1, Nat.lt_of_lt_of_le (h.base t b ht).2 hs⟩
  slot := fun t => (h.slot t).grow (fun _ _ x => x) (fun _ _ _ x => x) hc (fun b ht => hb t b ht)

structure Ext (w0 w w' : World) : Prop where
  blocks : ∀ k, k < w.heap.size → w'.heap[k]? = w.heap[k]?
  below : Below w0.heap.size w0 w'
  le : w.heap.size ≤ w'.heap.size

theorem Inv.extRefl (h : Inv P n S0 w0 S O g tm w) : Ext w0 w w := ⟨fun _ _ => rfl, h.below, Nat.le_refl _⟩
theorem Ext.alloc {w' : World} (h : Ext w0 w w') (h0 : w0.heap.size ≤ w'.heap.size) (o : Obj) : Ext w0 w (w'.alloc o) :=
  ⟨fun k hk => (Below.heap_alloc w' o k (Nat.lt_of_lt_of_le hk h.le)).trans (h.blocks k hk), h.below.alloc h0 o, by simp; exact Nat.le_succ_of_le h.le⟩
theorem Ext.drew {w' : World} (h : Ext w0 w w') : Ext w0 w w'.drew := ⟨h.blocks, h.below.drew, h.le⟩

theorem Inv.ext {w' : World} (h : Inv P n S0 w0 S O g tm w) (hx : Ext w0 w w') : Inv P n S0 w0 S O g tm w' := h.grow hx.blocks hx.below hx.le

theorem Inv.has (h : Inv P n S0 w0 S O g tm w) {t : Nat} (ht : n.Has t) : t < GB := Nat.lt_of_lt_of_le ht.1 h.nb

/-- the forgetting of one slot and a new value in it -/
theorem Inv.clear (h : Inv P n S0 w0 S O g tm w) (t : Nat) (v : Value) (hok : n.ok t = true) (hal : ∀ t' s, aliasOf (g t') = some s → s = t → t' = t) :
    Inv P n S0 w0 S (fun t' => if t' = t then none else O t') (upd g t .un) (tm.setIfInBounds t v) w := by
  have h1 := h.drops [t] (fun t' s h1 h2 => by simp at h2 ⊢; exact hal t' s h1 h2)
  have e1 : (fun t' => if t' ∈ [t] then none else O t') = (fun t' => if t' = t then none else O t') := by funext x; simp
  have e2 : (fun t' => if t' ∈ [t] then D.un else g t') = upd g t .un := by funext x; simp [upd]
  rw [e1, e2] at h1
  exact h1.touch v hok (by simp [upd]) (fun t' s h2 e => by
    subst e
    unfold upd at h2
    split at h2
    · cases h2
    · rename_i hne; exact hne (hal t' s h2 rfl))

theorem upd_upd (g : G) (t : Nat) (a b : D) : upd (upd g t a) t b = upd g t b := by
  funext x; simp only [upd]; split <;> rfl

theorem noAlias_clear {t : Nat} (hal : ∀ t' s, aliasOf (g t') = some s → s = t → t' = t) : ∀ t' s, aliasOf (upd g t .un t') = some s → s ≠ t := fun t' s h2 e => by
  subst e
  unfold upd at h2
  split at h2
  · cases h2
  · rename_i hne; exact hne (hal t' s h2 rfl)

/-- a plain value, in a world that has grown -/
theorem Inv.setPure {w' : World} {S' : Nat → Nat → Prop} {d : D} {v : Value} {dst : Nat} (h : Inv P n S0 w0 S O g tm w) (hx : Ext w0 w w') (hS : ∀ b o, S b o → S' b o)
    (hS' : ∀ b o, S' b o → S b o ∨ (w.heap.size ≤ b ∧ b < w'.heap.size)) (hr : Rep S' w' d v) (hdst : n.Has dst) (hal : ∀ t' s, aliasOf (g t') = some s → s = dst → t' = dst) :
    Inv P n S0 w0 S' (fun t' => if t' = dst then none else O t') (upd g dst d) (tm.setIfInBounds dst v) w' := by
  have h1 := h.ext hx
  have h2 : Inv P n S0 w0 S' O g tm w' := h1.settle hS (fun b o x => (hS' b o x).imp id fun y =>
    ⟨Nat.le_trans h.below.size y.1, y.2, fun t e => by have := (h.base t b e).2; omega⟩)
  have h3 := h2.clear dst v hdst.2 hal
  have h4 := h3.put (O' := fun t' => if t' = dst then none else O t') (t := dst) (d := d) (fun _ _ => rfl) (by simp [upd]) (noAlias_clear hal) (fun b e => by simp at e)
    ((SR.pure_iff hr.pure).2 ⟨by simp, by rw [tmOf_set _ _ (by rw [h.size]; exact hdst.1) (h.has hdst)]; exact hr⟩) (.inl (h.has hdst))
  rwa [upd_upd] at h4

/-- an owned value in a new block -/
theorem Inv.setOwn {w' : World} {d : D} {v : Value} {dst : Nat} {ob : Option Nat} (h : Inv P n S0 w0 S O g tm w) (hx : Ext w0 w w') (hd : d.owned = true)
    (hr : OwnR P S w' ob d v) (hob : ∀ b, ob = some b → w.heap.size ≤ b ∧ b < w'.heap.size) (hdst : n.Has dst) (hal : ∀ t' s, aliasOf (g t') = some s → s = dst → t' = dst) :
    Inv P n S0 w0 S (fun t' => if t' = dst then ob else O t') (upd g dst d) (tm.setIfInBounds dst v) w' := by
  have h1 := h.ext hx
  have h3 := h1.clear dst v hdst.2 hal
  have h4 := h3.put (O' := fun t' => if t' = dst then ob else O t') (t := dst) (d := d) (fun t' e => by simp [e]) (by simp [upd]) (noAlias_clear hal)
    (fun b e => by
      simp only [if_true] at e
      refine ⟨Nat.le_trans h.below.size (hob b e).1, (hob b e).2, fun t' e' => ?_⟩
      split at e'
      · cases e'
      · have := (h.base t' b e').2; have := (hob b e).1; omega)
    ((SR.owned_iff hd).2 (by simp only [if_true]; rw [tmOf_set _ _ (by rw [h.size]; exact hdst.1) (h.has hdst)]; exact hr)) (.inl (h.has hdst))
  rwa [upd_upd] at h4

/-- another name for slot s -/
theorem Inv.setAl {v : Value} {dst s : Nat} (h : Inv P n S0 w0 S O g tm w) (hv : v = tmOf n.gv tm s) (hne : s ≠ dst) (hdst : n.Has dst) (hal : ∀ t' s, aliasOf (g t') = some s → s = dst → t' = dst) :
    Inv P n S0 w0 S (fun t' => if t' = dst then none else O t') (upd g dst (.al s)) (tm.setIfInBounds dst v) w := by
  have h3 := h.clear dst v hdst.2 hal
  have h4 := h3.put (O' := fun t' => if t' = dst then none else O t') (t := dst) (d := .al s) (fun _ _ => rfl) (by simp [upd]) (noAlias_clear hal) (fun b e => by simp at e)
    (by
      simp only [SR]
      refine ⟨by simp, ?_⟩
      rw [tmOf_set _ _ (by rw [h.size]; exact hdst.1) (h.has hdst), hv]
      simp [tmOf, Array.getElem?_setIfInBounds_ne (fun e : dst = s => hne e.symm)]) (.inl (h.has hdst))
  rwa [upd_upd] at h4

/-- an address in what slot s owns -/
theorem Inv.setRf {b dst s off : Nat} (h : Inv P n S0 w0 S O g tm w) (hs : O s = some b) (hne : s ≠ dst) (hdst : n.Has dst) (hal : ∀ t' s, aliasOf (g t') = some s → s = dst → t' = dst) :
    Inv P n S0 w0 S (fun t' => if t' = dst then none else O t') (upd g dst (.rf s off)) (tm.setIfInBounds dst (.pointer (some ⟨b, off, none⟩))) w := by
  have h3 := h.clear dst (.pointer (some ⟨b, off, none⟩)) hdst.2 hal
  have h4 := h3.put (O' := fun t' => if t' = dst then none else O t') (t := dst) (d := .rf s off) (fun _ _ => rfl) (by simp [upd]) (noAlias_clear hal) (fun b e => by simp at e)
    (by
      simp only [SR]
      refine ⟨by simp, b, ?_, ?_⟩
      · rw [if_neg hne]; exact hs
      · rw [tmOf_set _ _ (by rw [h.size]; exact hdst.1) (h.has hdst)]) (.inl (h.has hdst))
  rwa [upd_upd] at h4

end Go.Pi
