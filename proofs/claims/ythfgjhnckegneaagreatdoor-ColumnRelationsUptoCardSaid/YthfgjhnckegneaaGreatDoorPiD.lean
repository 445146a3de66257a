/-
  WHAT A SLOT OWNS: it is lent (no longer written), it is written, it is handed on. Own work.
-/
import Derived.Test.YthfgjhnckegneaaGreatDoorPiC
namespace Go.Pi
open Go Go.RowKit

variable {P : Program} {n : Nz} {S0 S : Nat → Nat → Prop} {w0 w : World} {O : Nat → Option Nat} {g : G} {tm : Array Value}

def D.owned : D → Bool
  | .own .. | .box .. => true
  | _ => false

theorem SR.owned_iff {t : Nat} {d : D} {f : Nat → Value} (hp : d.owned = true) : SR P S w O f t d ↔ OwnR P S w (O t) d (f t) := by
  cases d <;> first | exact Iff.rfl | simp [D.owned] at hp

/-- the memory that slot s owns is changed, or settled; all other slots stay -/
theorem Inv.ownChange {s b : Nat} {d' : D} {w' : World} {S' : Nat → Nat → Prop} (h : Inv P n S0 w0 S O g tm w) (hs : O s = some b) (hcl : ∃ arr e fr, w.heap[b]? = some (.cells arr e fr)) (hd' : d'.owned = true)
    (hS : ∀ b o, S b o → S' b o) (hS' : ∀ b' o, S' b' o → S b' o ∨ b' = b) (hw : ∀ k, k ≠ b → w'.heap[k]? = w.heap[k]?)
    (hc : ∀ o, S b o → w'.cell? ⟨b, o, none⟩ = w.cell? ⟨b, o, none⟩) (hsz : w'.heap.size = w.heap.size) (hos : w'.os = w.os) (htape : w'.tape = w.tape) (hout : w'.output = w.output)
    (hown : OwnR P S' w' (some b) d' (tmOf n.gv tm s)) : Inv P n S0 w0 S' O (upd g s d') tm w' where
  size := h.size
  below := h.below.trans ⟨hos, htape, hout, by omega, fun k hk => hw k (fun e => by have := (h.base s b hs).1; omega)⟩
  sub := fun b o x => hS _ _ (h.sub b o x)
  sup := fun b' o x => by
    rcases hS' b' o x with y | rfl
    · exact h.sup b' o y
    · exact .inr (h.base s b' hs).1
  ex := fun b' o x => by
    rw [hsz]
    rcases hS' b' o x with y | rfl
    · exact h.ex b' o y
    · exact (h.base s b' hs).2
  inj := h.inj
  fix := h.fix
  nb := h.nb
  gh := fun t ht => by
    unfold upd
    split
    · cases d' <;> first | rfl | simp [D.owned] at hd'
    · exact h.gh t ht
  keep := fun k o hk ho => by
    have h1 := h.keep k o hk ho
    by_cases e : k = b
    · subst e
      obtain ⟨arr, e, fr, h2⟩ := hcl
      rw [h2] at h1; cases h1; cases ho
    · rw [hw k e]; exact h1
  base := fun t b' ht => by rw [hsz]; exact h.base t b' ht
  slot := fun t => by
    by_cases ht : t = s
    · subst ht
      simp only [upd, if_true]
      rw [SR.owned_iff hd', hs]
      exact hown
    · simp only [upd, if_neg ht]
      have hcell : ∀ b' o, S b' o → w'.cell? ⟨b', o, none⟩ = w.cell? ⟨b', o, none⟩ := fun b' o x => by
        by_cases e : b' = b
        · subst e; exact hc o x
        · exact cell_of_heap (hw b' e)
      have hne : ∀ b', O t = some b' → b' ≠ b := fun b' h1 e => ht (h.inj t s b (e ▸ h1) hs)
      exact (h.slot t).grow hS (fun b' o h1 x => (hS' b' o x).resolve_right (hne b' h1)) hcell (fun b' h1 => hw b' (hne b' h1))

theorem upd_same (g : G) (s : Nat) : upd g s (g s) = g := by
  funext t; simp only [upd]; split
  · rename_i h; rw [h]
  · rfl

/-- what slot s owns is lent: from now on nobody writes it -/
theorem Inv.dull (h : Inv P n S0 w0 S O g tm w) (s : Nat) : ∃ S', Inv P n S0 w0 S' O (upd g s (g s).dull) tm w ∧ ∀ b o, S b o → S' b o := by
  have hs := h.slot s
  have triv : (g s).dull = g s → ∃ S', Inv P n S0 w0 S' O (upd g s (g s).dull) tm w ∧ ∀ b o, S b o → S' b o := fun e => by
    rw [e, upd_same]; exact ⟨S, h, fun _ _ x => x⟩
  cases hg : g s <;> (try (rw [hg] at triv; exact triv rfl))
  · rename_i wr e m ds
    rw [hg] at hs
    simp only [SR, OwnR] at hs
    rcases hs with ⟨h1, h2, rfl, rfl⟩ | ⟨b, cap, arr, h1, h2, h3, h4, h5, h6, h7, h8, h9, h10, h11⟩
    · -- nothing is owned
      refine ⟨S, ⟨h.size, h.below, h.sub, h.sup, h.ex, h.inj, h.base, fun t => ?_, h.fix, h.keep, h.nb, fun t ht => ?_⟩, fun _ _ x => x⟩
      rotate_left
      · unfold upd; split
        · rfl
        · exact h.gh t ht
      by_cases ht : t = s
      · subst ht; simp only [upd, if_true, D.dull, SR, OwnR]; exact .inl ⟨h1, h2, trivial, trivial⟩
      · simp only [upd, if_neg ht]; exact h.slot t
    · refine ⟨fun b' o => S b' o ∨ (b' = b ∧ o < ds.length), ?_, fun _ _ x => .inl x⟩
      refine h.ownChange h1 ⟨_, _, _, h3⟩ rfl (fun _ _ x => .inl x) (fun b' o x => x.imp id (·.1)) (fun _ _ => rfl) (fun _ _ => rfl) rfl rfl rfl rfl ?_
      simp only [D.dull, OwnR]
      refine .inr ⟨b, cap, arr, rfl, h2, h3, h4, h5, h6, h7, h8.mono (fun _ _ x => .inl x) (fun _ _ _ => rfl), h9, fun j hj => ⟨trivial, ?_⟩, fun _ j hj => .inr ⟨rfl, hj⟩⟩
      rcases hj with hj | ⟨_, hj⟩
      · exact (h10 j hj).2
      · exact hj
  · rename_i wr ds
    rw [hg] at hs
    simp only [SR, OwnR] at hs
    obtain ⟨b, arr, e, h1, h2, h3, h8, h9, h10, h11⟩ := hs
    refine ⟨fun b' o => S b' o ∨ (b' = b ∧ o < ds.length), ?_, fun _ _ x => .inl x⟩
    refine h.ownChange h1 ⟨_, _, _, h3⟩ rfl (fun _ _ x => .inl x) (fun b' o x => x.imp id (·.1)) (fun _ _ => rfl) (fun _ _ => rfl) rfl rfl rfl rfl ?_
    simp only [D.dull, OwnR]
    refine ⟨b, arr, e, rfl, h2, h3, h8.mono (fun _ _ x => .inl x) (fun _ _ _ => rfl), h9, fun j hj => ⟨trivial, ?_⟩, fun _ j hj => .inr ⟨rfl, hj⟩⟩
    rcases hj with hj | ⟨_, hj⟩
    · exact (h10 j hj).2
    · exact hj

/-- a row of a block that is settled -/
theorem Row.ofBlock {b : Nat} {arr : Array Value} {e : TypeId} {fr : Nat × Nat} {m : Nat} (h3 : w.heap[b]? = some (.cells arr e fr)) (hS : ∀ j, j < m → S b j) : Row S w b 0 (arr.toList.take m) := by
  intro i v hi
  rw [List.getElem?_take] at hi
  split at hi
  · rename_i him
    refine ⟨by simpa using hS i him, ?_⟩
    rw [Nat.zero_add, cell_of_row w b i arr e fr h3]
    simpa using hi
  · cases hi

/-- what is lent reads as a plain slice -/
theorem OwnR.rep {ob : Option Nat} {e : TypeId} {m : Nat} {ds : List D} {v : Value} (h : OwnR P S w ob (.own false e m ds) v) : Rep S w (.sl m ds) v := by
  simp only [OwnR] at h
  rcases h with ⟨_, rfl, rfl, rfl⟩ | ⟨b, cap, arr, _, rfl, h3, h4, h5, h6, h7, h8, h9, h10, h11⟩
  · exact .sl0 none 0 (Nat.zero_le _)
  · refine .sl m ds b 0 cap _ h8.1 h9 h4 h5 ?_ h8.2
    rw [← h7]
    exact Row.ofBlock h3 (fun j hj => h11 trivial j hj)

theorem OwnR.repPt {ob : Option Nat} {ds : List D} {v : Value} (h : OwnR P S w ob (.box false ds) v) : Rep S w (.pt ds) v := by
  simp only [OwnR] at h
  obtain ⟨b, arr, e, _, rfl, h3, h8, h9, h10, h11⟩ := h
  have hl : ds.length = arr.toList.length := h8.1
  refine .pt ds b 0 arr.toList hl h9 ?_ h8.2
  have := Row.ofBlock (S := S) (m := ds.length) h3 (fun j hj => h11 trivial j hj)
  rwa [hl, List.take_length] at this

end Go.Pi
