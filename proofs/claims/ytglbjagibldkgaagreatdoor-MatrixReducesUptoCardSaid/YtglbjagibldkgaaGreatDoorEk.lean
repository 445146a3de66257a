/-
  OWN MATRICES: with a list under way, no box. Own work.
-/
import Derived.Test.YtglbjagibldkgaaGreatDoorEi
set_option linter.unusedVariables false
set_option linter.unusedSimpArgs false
namespace Go.Pi
open Go Go.RowKit Go.Mx Go.Ar

structure OwnL (W0 W : World) (eR eS eI g cap n m : Nat) (B C : Nat → Nat) (X : Nat → Nat → Value) (v : Value) (k : Nat) (xs : List Value) : Prop where
  mat : OwnM W W0.heap.size eR eS g cap n m B C X
  ld : W.ownsRow W0.heap.size eI 1 v k xs
  bel : Below W0.heap.size W0 W
namespace OwnL
variable {W0 W : World} {eR eS eI g cap n m : Nat} {B C : Nat → Nat} {X Y : Nat → Nat → Value} {v : Value} {k : Nat} {xs : List Value}
theorem drew (h : OwnL W0 W eR eS eI g cap n m B C X v k xs) : OwnL W0 W.drew eR eS eI g cap n m B C X v k xs := ⟨h.mat.drew, h.ld.drew, h.bel.drew⟩
theorem below {W' : World} (h : OwnL W0 W eR eS eI g cap n m B C X v k xs) (hb : Below W.heap.size W W') : OwnL W0 W' eR eS eI g cap n m B C X v k xs :=
  ⟨h.mat.below hb, h.ld.kept (gr_below (r := none) hb) (Classical.em _), h.bel.trans (hb.mono h.bel.size)⟩
theorem congr (h : OwnL W0 W eR eS eI g cap n m B C X v k xs) (e : ∀ i, i < n → ∀ j, j < m → X i j = Y i j) : OwnL W0 W eR eS eI g cap n m B C Y v k xs :=
  ⟨h.mat.congr e, h.ld, h.bel⟩
theorem setRow (h : OwnL W0 W eR eS eI g cap n m B C X v k xs) (h1 : eS ≠ eI) {i : Nat} (hi : i < n) (j : Nat) (u : Value) : OwnL W0 (W.setCell ⟨B i, j, none⟩ u) eR eS eI g cap n m B C (fun a b => if a = i ∧ b = j then u else X a b) v k xs := by
  have hg := ((h.mat.row i hi).stored j u).2
  exact ⟨h.mat.setRow hi j u, h.ld.kept hg (.inr (own_ne' h.ld (h.mat.row i hi) h1.symm)), h.bel.setCell (h.mat.rowLt hi).1 u⟩
theorem swap (h : OwnL W0 W eR eS eI g cap n m B C X v k xs) (h1 : eR ≠ eI) {a b : Nat} (ha : a < n) (hb : b < n) :
    OwnL W0 ((W.setCell ⟨g, a, none⟩ (.slice (some ⟨B b, 0, none⟩) m (C b))).setCell ⟨g, b, none⟩ (.slice (some ⟨B a, 0, none⟩) m (C a))) eR eS eI g cap n m
      (fun i => if i = a then B b else if i = b then B a else B i) (fun i => if i = a then C b else if i = b then C a else C i) (fun i => if i = a then X b else if i = b then X a else X i) v k xs := by
  have hg := World.grownBy.trans_own h.mat.top a b (.slice (some ⟨B b, 0, none⟩) m (C b)) (.slice (some ⟨B a, 0, none⟩) m (C a))
  exact ⟨h.mat.swap ha hb, h.ld.kept hg (.inr (own_ne' h.ld h.mat.top h1.symm)), h.bel.grown hg h.bel.size (fun k hk => by cases hk; exact h.mat.topLt.1)⟩
theorem grown {W2 : World} {ob : Obj} (h : OwnL W0 W eR eS eI g cap n m B C X v k xs) (h1 : eR ≠ eI) (h2 : eS ≠ eI) (hg : (W.alloc ob).grownBy W2 v.ownBlock) :
    OwnM W2 W0.heap.size eR eS g cap n m B C X ∧ Below W0.heap.size W0 W2 := by
  have ha : OwnM (W.alloc ob) W0.heap.size eR eS g cap n m B C X := h.mat.kept (World.grownBy_alloc W ob none)
  have e1 := own_ne' h.ld h.mat.top h1.symm
  have e2 : ∀ i, i < n → v.ownBlock ≠ some (B i) := fun i hi => own_ne' h.ld (h.mat.row i hi) h2.symm
  refine ⟨⟨ha.top.kept hg (.inr (by simp only [Value.ownBlock]; exact fun e => e1 e.symm)), fun i hi => (ha.row i hi).kept hg (.inr (by simp only [Value.ownBlock]; exact fun e => e2 i hi e.symm)), h.mat.ne, h.mat.inj⟩, ?_⟩
  exact (h.bel.alloc h.bel.size _).grown hg (by have := h.bel.size; simp; omega) (fun k hk => (h.ld.lt k hk).1)
end OwnL
/-- the first rows of an own matrix as data -/
theorem OwnM.repTake {W : World} {S : Nat → Nat → Prop} {base eR eS g cap n m r : Nat} {B C : Nat → Nat} {f : Nat → Nat → List UInt8} (h : OwnM W base eR eS g cap n m B C (fun i j => .string ⟨(f i j).toArray⟩)) (hr : r ≤ n) (hl : ∀ i, i < n → ∀ j, j < m → (f i j).length ≤ maxLen) (hS : ∀ b j, base ≤ b → b < W.heap.size → S b j) :
    Rep S W (.sl r (lst r fun i => .sl m (lst m fun j => .str (f i j)))) (.slice (some ⟨g, 0, none⟩) r cap) := by
  have h' : OwnM W base eR eS g cap r m B C (fun i j => .string ⟨(f i j).toArray⟩) := by
    refine ⟨?_, fun i hi => h.row i (by omega), fun i hi => h.ne i (by omega), fun i j hi hj => h.inj i j (by omega) (by omega)⟩
    have ht := own_less h.top hr
    have e : (lst n fun i => Value.slice (some ⟨B i, 0, none⟩) m (C i)).take (r * 1) = lst r fun i => Value.slice (some ⟨B i, 0, none⟩) m (C i) := by
      apply List.ext_getElem?
      intro i
      rw [List.getElem?_take, Nat.mul_one]
      by_cases hi : i < r
      · rw [if_pos hi, lst_at _ (by omega), lst_at _ hi]
      · rw [if_neg hi, List.getElem?_eq_none (by rw [lst_len]; omega)]
    rw [e] at ht
    exact ht
  exact h'.rep (fun i hi => hl i (by omega)) hS
/-- the three results of the reference's elimination -/
theorem res_redX {P : Program} {S : Nat → Nat → Prop} {W W' : World} {eR eS eI g cap n m r : Nat} {B C : Nat → Nat} {f : Nat → Nat → List UInt8} {v : Value} {l : List Nat} {q : List UInt8}
    (h : OwnM W' W.heap.size eR eS g cap n m B C (fun i j => .string ⟨(f i j).toArray⟩)) (hr : r ≤ n) (hl : W'.ownsRow W.heap.size eI 1 v l.length (l.map fun x : Nat => .int .i64 x)) (hf : ∀ i, i < n → ∀ j, j < m → (f i j).length ≤ maxLen) (hq : q.length ≤ maxLen) :
    Res P S W W' (.tup [.sl r (lst r fun i => .sl m (lst m fun j => .str (f i j))), .sl l.length (l.map fun x : Nat => .int .i64 x), .str q]) (.tuple #[.slice (some ⟨g, 0, none⟩) r cap, v, .string ⟨q.toArray⟩]) := by
  refine .tup _ [_, _, _] rfl ?_
  intro i d u hd hu
  match i with
  | 0 => cases hd; cases hu; exact h.repTake hr hf fun _ _ h1 h2 => .inr ⟨h1, h2⟩
  | 1 => cases hd; cases hu; exact rep_nats hl fun _ _ h1 h2 => .inr ⟨h1, h2⟩
  | 2 => cases hd; cases hu; exact .str q hq
  | k + 3 => simp at hd
end Go.Pi
namespace Go.Mx
/-- the factor of the reference: 0 after a column without a leading number -/
def facG (s : RSt) : Rat := if s.gap then 0 else s.fac
theorem facG_found {n : Nat} {s : RSt} {c : Nat} (h : lookM s.F c (n - s.lead.length) s.lead.length < n) :
    facG (stpM n s c) = (if lookM s.F c (n - s.lead.length) s.lead.length = s.lead.length then facG s else -facG s) * s.F (lookM s.F c (n - s.lead.length) s.lead.length) c := by
  rw [stp_found h]
  unfold facG
  cases s.gap
  · simp
  · simp
theorem facG_not {n : Nat} {s : RSt} {c : Nat} (h : ¬lookM s.F c (n - s.lead.length) s.lead.length < n) : facG (stpM n s c) = 0 := by
  rw [stp_not h]; simp [facG]
end Go.Mx
