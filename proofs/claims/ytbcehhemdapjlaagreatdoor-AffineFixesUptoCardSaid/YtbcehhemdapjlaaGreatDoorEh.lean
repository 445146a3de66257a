/-
 OWN MATRICES: a row of rows, all of the call's own. Own work.
-/
import Derived.Test.YtbcehhemdapjlaaGreatDoorPj
import Derived.Test.YtbcehhemdapjlaaGreatDoorEg
import Derived.Laws.OwnMore
import Derived.Below
import Derived.Test.YtbcehhemdapjlaaGreatDoorEa
set_option linter.unusedVariables false
set_option linter.unusedSimpArgs false
namespace Go.Pi
open Go Go.RowKit

/-- a function of an index as a list -/
def lst {α : Type} (n : Nat) (f : Nat → α) : List α := (List.range n).map f
theorem lst_len {α : Type} (n : Nat) (f : Nat → α) : (lst n f).length = n := by simp [lst]
theorem lst_at {α : Type} {n j : Nat} (f : Nat → α) (h : j < n) : (lst n f)[j]? = some (f j) := by simp [lst, h]
theorem lst_set {α : Type} {n j : Nat} (f : Nat → α) (u : α) : (lst n f).set j u = lst n (fun i => if i = j then u else f i) := by
 apply List.ext_getElem?
 intro i
 rw [List.getElem?_set]
 by_cases hi : i < n
 ·rw [lst_at _ hi, lst_at _ hi, lst_len]
  by_cases e : j = i
  ·subst e; rw [if_pos rfl, if_pos hi, if_pos rfl]
  ·rw [if_neg e, if_neg (Ne.symm e)]
 ·have h1 : ∀ g : Nat → α, (lst n g)[i]? = none := fun g => List.getElem?_eq_none (by rw [lst_len]; omega)
  rw [h1, h1, lst_len]
  split
  ·rename_i e; subst e; rw [if_neg hi]
  ·rfl
theorem lst_congr {α : Type} {n : Nat} {f g : Nat → α} (h : ∀ i, i < n → f i = g i) : lst n f = lst n g := by
 unfold lst
 exact List.map_congr_left fun i hi => h i (List.mem_range.1 hi)
theorem lst_succ {α : Type} (n : Nat) (f : Nat → α) : lst (n + 1) f = lst n f ++ [f n] := by
 unfold lst; rw [List.range_succ, List.map_append]; rfl

structure OwnM (W : World) (base eR eS g cap n m : Nat) (B C : Nat → Nat) (X : Nat → Nat → Value) : Prop where
 top : W.ownsRow base eR 1 (.slice (some ⟨g, 0, none⟩) n cap) n (lst n fun i => .slice (some ⟨B i, 0, none⟩) m (C i))
 row : ∀ i, i < n → W.ownsRow base eS 1 (.slice (some ⟨B i, 0, none⟩) m (C i)) m (lst m (X i))
 ne : ∀ i, i < n → B i ≠ g
 inj : ∀ i j, i < n → j < n → B i = B j → i = j

namespace OwnM
variable {W : World} {base eR eS g cap n m : Nat} {B C : Nat → Nat} {X Y : Nat → Nat → Value}
theorem topCell (h : OwnM W base eR eS g cap n m B C X) {i : Nat} (hi : i < n) : W.cell? ⟨g, i, none⟩ = some (.slice (some ⟨B i, 0, none⟩) m (C i)) := by
 rw [h.top.cellAt i (by omega), lst_at _ hi]
theorem rowCell (h : OwnM W base eR eS g cap n m B C X) {i j : Nat} (hi : i < n) (hj : j < m) : W.cell? ⟨B i, j, none⟩ = some (X i j) := by
 rw [(h.row i hi).cellAt j (by omega), lst_at _ hj]
theorem topFrozen (h : OwnM W base eR eS g cap n m B C X) (i : Nat) : W.frozen? ⟨g, i, none⟩ = false := h.top.frozenAt i
theorem rowFrozen (h : OwnM W base eR eS g cap n m B C X) {i : Nat} (hi : i < n) (j : Nat) : W.frozen? ⟨B i, j, none⟩ = false := (h.row i hi).frozenAt j
theorem topLt (h : OwnM W base eR eS g cap n m B C X) : base ≤ g ∧ g < W.heap.size := h.top.lt g rfl
theorem rowLt (h : OwnM W base eR eS g cap n m B C X) {i : Nat} (hi : i < n) : base ≤ B i ∧ B i < W.heap.size := (h.row i hi).lt (B i) rfl
theorem drew (h : OwnM W base eR eS g cap n m B C X) : OwnM W.drew base eR eS g cap n m B C X := ⟨h.top.drew, fun i hi => (h.row i hi).drew, h.ne, h.inj⟩
theorem kept {W' : World} (h : OwnM W base eR eS g cap n m B C X) (hg : W.grownBy W' none) : OwnM W' base eR eS g cap n m B C X :=
 ⟨h.top.kept hg (.inr (by simp [Value.ownBlock])), fun i hi => (h.row i hi).kept hg (.inr (by simp [Value.ownBlock])), h.ne, h.inj⟩
theorem below {W' : World} (h : OwnM W base eR eS g cap n m B C X) (hb : Below W.heap.size W W') : OwnM W' base eR eS g cap n m B C X := h.kept (gr_below hb)
theorem congr (h : OwnM W base eR eS g cap n m B C X) (e : ∀ i, i < n → ∀ j, j < m → X i j = Y i j) : OwnM W base eR eS g cap n m B C Y :=
 ⟨h.top, fun i hi => by rw [← lst_congr (e i hi)]; exact h.row i hi, h.ne, h.inj⟩
/-- a store into a row -/
theorem setRow (h : OwnM W base eR eS g cap n m B C X) {i : Nat} (hi : i < n) (j : Nat) (v : Value) :
  OwnM (W.setCell ⟨B i, j, none⟩ v) base eR eS g cap n m B C (fun a b => if a = i ∧ b = j then v else X a b) := by
 obtain ⟨h1, h2⟩ := (h.row i hi).stored j v
 refine ⟨h.top.kept h2 (.inr (by simp [Value.ownBlock]; exact fun e => h.ne i hi e.symm)), fun a ha => ?_, h.ne, h.inj⟩
 by_cases e : a = i
 ·subst e
  rw [lst_set] at h1
  rw [show lst m (fun b => if a = a ∧ b = j then v else X a b) = lst m (fun b => if b = j then v else X a b) from lst_congr fun b _ => by simp]
  exact h1
 ·rw [show lst m (fun b => if a = i ∧ b = j then v else X a b) = lst m (X a) from lst_congr fun b _ => by simp [e]]
  exact (h.row a ha).kept h2 (.inr (by simp [Value.ownBlock]; exact fun e2 => e (h.inj a i ha hi e2)))
/-- two rows exchanged -/
theorem swap (h : OwnM W base eR eS g cap n m B C X) {a b : Nat} (ha : a < n) (hb : b < n) :
  OwnM ((W.setCell ⟨g, a, none⟩ (.slice (some ⟨B b, 0, none⟩) m (C b))).setCell ⟨g, b, none⟩ (.slice (some ⟨B a, 0, none⟩) m (C a))) base eR eS g cap n m
   (fun i => if i = a then B b else if i = b then B a else B i) (fun i => if i = a then C b else if i = b then C a else C i) (fun i => if i = a then X b else if i = b then X a else X i) := by
 obtain ⟨h1, h2⟩ := h.top.stored a (.slice (some ⟨B b, 0, none⟩) m (C b))
 obtain ⟨h3, h4⟩ := h1.stored b (.slice (some ⟨B a, 0, none⟩) m (C a))
 have hg := gr_trans h2 h4
 refine ⟨?_, ?_, ?_, ?_⟩
 ·rw [lst_set, lst_set] at h3
  rw [show lst n (fun i => Value.slice (some ⟨if i = a then B b else if i = b then B a else B i, 0, none⟩) m (if i = a then C b else if i = b then C a else C i)) = lst n (fun i => if i = b then Value.slice (some ⟨B a, 0, none⟩) m (C a) else if i = a then Value.slice (some ⟨B b, 0, none⟩) m (C b) else Value.slice (some ⟨B i, 0, none⟩) m (C i)) from lst_congr fun i _ => by
   by_cases e1 : i = a
   ·by_cases e2 : i = b
    ·subst e1; subst e2; simp
    ·simp [e1]
     intro e; subst e; exact absurd e1 e2
   ·by_cases e2 : i = b
    ·simp [e2]
     exact ⟨fun e => absurd (e2.trans e) e1, fun e => absurd (e2.trans e) e1⟩
    ·simp [e1, e2]]
  exact h3
 ·intro i hi
  have hr : ∀ k, k < n → ((W.setCell ⟨g, a, none⟩ (.slice (some ⟨B b, 0, none⟩) m (C b))).setCell ⟨g, b, none⟩ (.slice (some ⟨B a, 0, none⟩) m (C a))).ownsRow base eS 1 (.slice (some ⟨B k, 0, none⟩) m (C k)) m (lst m (X k)) := fun k hk => (h.row k hk).kept hg (.inr (by simp [Value.ownBlock]; exact h.ne k hk))
  by_cases e1 : i = a
  ·simp only [if_pos e1]; exact hr b hb
  ·by_cases e2 : i = b
   ·simp only [if_neg e1, if_pos e2]; exact hr a ha
   ·simp only [if_neg e1, if_neg e2]; exact hr i hi
 ·intro i hi
  by_cases e1 : i = a
  ·simp only [if_pos e1]; exact h.ne b hb
  ·by_cases e2 : i = b
   ·simp only [if_neg e1, if_pos e2]; exact h.ne a ha
   ·simp only [if_neg e1, if_neg e2]; exact h.ne i hi
 ·intro i j hi hj hij
  have key : ∀ x y, x < n → y < n → B x = B y → x = y := h.inj
  by_cases e1 : i = a
  ·subst e1
   by_cases e3 : j = i
   ·exact e3.symm
   ·by_cases e4 : j = b
    ·subst e4
     simp only [if_pos, if_neg e3] at hij
     exact (key j i hb ha hij).symm
    ·simp only [if_pos, if_neg e3, if_neg e4] at hij
     exact absurd (key b j hb hj hij).symm e4
  ·by_cases e2 : i = b
   ·subst e2
    by_cases e3 : j = a
    ·subst e3
     simp only [if_neg e1, if_pos] at hij
     exact (key j i ha hb hij).symm
    ·by_cases e4 : j = i
     ·exact e4.symm
     ·simp only [if_neg e1, if_pos, if_neg e3, if_neg e4] at hij
      exact absurd (key a j ha hj hij).symm e3
   ·by_cases e3 : j = a
    ·subst e3
     simp only [if_neg e1, if_neg e2, if_pos] at hij
     exact absurd (key i b hi hb hij) e2
    ·by_cases e4 : j = b
     ·subst e4
      simp only [if_neg e1, if_neg e2, if_neg e3, if_pos] at hij
      exact absurd (key i a hi ha hij) e1
     ·simp only [if_neg e1, if_neg e2, if_neg e3, if_neg e4] at hij
      exact key i j hi hj hij
end OwnM
/-- a row of strings as data -/
theorem rep_strs {W : World} {S : Nat → Nat → Prop} {base e : Nat} {v : Value} {n : Nat} {f : Nat → List UInt8} (h : W.ownsRow base e 1 v n (lst n fun i => .string ⟨(f i).toArray⟩)) (hl : ∀ i, i < n → (f i).length ≤ maxLen) (hS : ∀ b j, base ≤ b → b < W.heap.size → S b j) :
  Rep S W (.sl n (lst n fun i => .str (f i))) v := by
 rcases h.2 with ⟨rfl, h0⟩ | ⟨b, cap, cur, rfl, hbg, hg, hn, hc, _, _⟩
 ·subst h0; exact .sl0 none 0 (Nat.zero_le _)
 ·refine .sl n (lst n fun i => .str (f i)) b 0 cap (lst n fun i => .string ⟨(f i).toArray⟩) (by rw [lst_len, lst_len]) (fun d hd => ?_) hn hc (fun i u hu => ⟨hS b _ hbg (Array.getElem?_eq_some_iff.1 hg).1, ?_⟩) (fun i d u hd hu => ?_)
  ·unfold lst at hd
   obtain ⟨x, _, rfl⟩ := List.mem_map.1 hd
   rfl
  ·have hlt := (List.getElem?_eq_some_iff.1 hu).1
   rw [lst_len] at hlt
   rw [Nat.zero_add, h.cellAt i (by omega)]; exact hu
  ·have hlt := (List.getElem?_eq_some_iff.1 hu).1
   rw [lst_len] at hlt
   rw [lst_at _ hlt] at hd hu
   cases hd; cases hu
   exact .str _ (hl i hlt)
/-- an own matrix of strings as data -/
theorem OwnM.rep {W : World} {S : Nat → Nat → Prop} {base eR eS g cap n m : Nat} {B C : Nat → Nat} {f : Nat → Nat → List UInt8} (h : OwnM W base eR eS g cap n m B C (fun i j => .string ⟨(f i j).toArray⟩)) (hl : ∀ i, i < n → ∀ j, j < m → (f i j).length ≤ maxLen) (hS : ∀ b j, base ≤ b → b < W.heap.size → S b j) :
  Rep S W (.sl n (lst n fun i => .sl m (lst m fun j => .str (f i j)))) (.slice (some ⟨g, 0, none⟩) n cap) := by
 rcases h.top.2 with ⟨h1, _⟩ | ⟨b, cap', cur, hv, hbg, hg, hn, hc, _, _⟩
 ·simp at h1
 ·simp only [Value.slice.injEq, Option.some.injEq, Addr.mk.injEq, and_true, true_and] at hv
  obtain ⟨rfl, rfl⟩ := hv
  refine .sl n _ g 0 cap (lst n fun i => .slice (some ⟨B i, 0, none⟩) m (C i)) (by rw [lst_len, lst_len]) (fun d hd => ?_) hn hc (fun i u hu => ⟨hS g _ hbg (Array.getElem?_eq_some_iff.1 hg).1, ?_⟩) (fun i d u hd hu => ?_)
  ·unfold lst at hd
   obtain ⟨x, _, rfl⟩ := List.mem_map.1 hd
   rfl
  ·have hlt := (List.getElem?_eq_some_iff.1 hu).1
   rw [lst_len] at hlt
   rw [Nat.zero_add, h.top.cellAt i (by omega)]; exact hu
  ·have hlt := (List.getElem?_eq_some_iff.1 hu).1
   rw [lst_len] at hlt
   rw [lst_at _ hlt] at hd hu
   cases hd; cases hu
   exact rep_strs (h.row i hlt) (hl i hlt) hS
end Go.Pi
namespace Go.Pi
open Go Go.RowKit
theorem reps_lst {S : Nat → Nat → Prop} {w : World} {n : Nat} {f : Nat → List UInt8} {vs : List Value} (h : Reps S w (lst n fun i => .str (f i)) vs) : vs = lst n fun i => .string ⟨(f i).toArray⟩ := by
 have hl := h.1
 rw [lst_len] at hl
 apply List.ext_getElem?
 intro i
 by_cases hi : i < n
 ·have hv : vs[i]? = some vs[i] := List.getElem?_eq_getElem (by omega)
  have := h.2 i _ _ (lst_at _ hi) hv
  rw [hv, lst_at _ hi, this.str_inv.1]
 ·rw [List.getElem?_eq_none (by omega), List.getElem?_eq_none (by rw [lst_len]; omega)]
theorem own_of_res1 {P : Program} {S : Nat → Nat → Prop} {w w' : World} {e : TypeId} {n : Nat} {f : Nat → List UInt8} {v : Value} (hc : P.cellsOf e = 1) (h : Res P S w w' (.own true e n (lst n fun i => .str (f i))) v) : w'.ownsRow w.heap.size e 1 v n (lst n fun i => .string ⟨(f i).toArray⟩) := by
 obtain ⟨ob, h1, h2⟩ := h
 simp only [OwnR] at h2
 refine ⟨by rw [lst_len, Nat.mul_one], ?_⟩
 rcases h2 with ⟨_, rfl, h3, _⟩ | ⟨b, cap, arr, rfl, rfl, h3, h4, h5, h6, h7, h8, _⟩
 ·exact .inl ⟨rfl, h3⟩
 ·rw [hc] at h6 h8
  exact .inr ⟨b, cap, arr, rfl, (h1 b rfl).1, h3, h4, h5, h6, reps_lst h8⟩
/-- rows of different kinds lie in different blocks -/
theorem own_ne {w : World} {b1 b2 e1 e2 s1 s2 g1 g2 n1 n2 c1 c2 : Nat} {xs ys : List Value} (h1 : w.ownsRow b1 e1 s1 (.slice (some ⟨g1, 0, none⟩) n1 c1) n1 xs) (h2 : w.ownsRow b2 e2 s2 (.slice (some ⟨g2, 0, none⟩) n2 c2) n2 ys) (hne : e1 ≠ e2) : g1 ≠ g2 := by
 rintro rfl
 rcases h1.2 with ⟨h, _⟩ | ⟨g, cap, cur, h, _, hg, _⟩
 ·simp at h
 ·rcases h2.2 with ⟨h', _⟩ | ⟨g', cap', cur', h', _, hg', _⟩
  ·simp at h'
  ·simp only [Value.slice.injEq, Option.some.injEq, Addr.mk.injEq, and_true, true_and] at h h'
   obtain ⟨rfl, rfl⟩ := h
   obtain ⟨rfl, rfl⟩ := h'
   rw [hg] at hg'
   cases hg'
   exact hne rfl
/-- the first k rows of a matrix under way: the outer row may be nil -/
def OwnQ (W : World) (base eR eS : Nat) (v : Value) (k m : Nat) (B C : Nat → Nat) (X : Nat → Nat → Value) : Prop :=
 W.ownsRow base eR 1 v k (lst k fun i => .slice (some ⟨B i, 0, none⟩) m (C i)) ∧ (∀ i, i < k → W.ownsRow base eS 1 (.slice (some ⟨B i, 0, none⟩) m (C i)) m (lst m (X i))) ∧ (∀ i j, i < k → j < k → B i = B j → i = j)
theorem OwnQ.whole {W : World} {base eR eS n m : Nat} {v : Value} {B C : Nat → Nat} {X : Nat → Nat → Value} (h : OwnQ W base eR eS v n m B C X) (hn : 0 < n) (hne : eR ≠ eS) : ∃ g cap, v = .slice (some ⟨g, 0, none⟩) n cap ∧ OwnM W base eR eS g cap n m B C X := by
 obtain ⟨h1, h2, h3⟩ := h
 rcases h1.2 with ⟨_, h0⟩ | ⟨g, cap, cur, rfl, _⟩
 ·omega
 ·exact ⟨g, cap, rfl, h1, h2, fun i hi => (own_ne h1 (h2 i hi) hne).symm, h3⟩
end Go.Pi
namespace Go.Pi
open Go Go.RowKit
/-- one row more -/
theorem OwnQ.push {W W1 W2 : World} {base eR eS k m b1 c1 : Nat} {v v5 : Value} {B C : Nat → Nat} {X : Nat → Nat → Value} {r : Nat → Value} {ob : Obj}
  (h : OwnQ W base eR eS v k m B C X) (hne : eR ≠ eS) (hbase : base ≤ W.heap.size) (hb1 : Below W.heap.size W W1) (o1 : W1.ownsRow W.heap.size eS 1 (.slice (some ⟨b1, 0, none⟩) m c1) m (lst m r))
  (o5 : W2.ownsRow base eR 1 v5 (k + 1) ((lst k fun i => .slice (some ⟨B i, 0, none⟩) m (C i)) ++ [.slice (some ⟨b1, 0, none⟩) m c1])) (hg : (W1.alloc ob).grownBy W2 v.ownBlock) :
  OwnQ W2 base eR eS v5 (k + 1) m (fun i => if i = k then b1 else B i) (fun i => if i = k then c1 else C i) (fun i => if i = k then r else X i) := by
 obtain ⟨h1, h2, h3⟩ := h
 have hlt := o1.lt b1 rfl
 have hB : ∀ i, i < k → B i < W.heap.size := fun i hi => ((h2 i hi).lt (B i) rfl).2
 have hbn : ∀ i, i < k → v.ownBlock ≠ some (B i) := by
  intro i hi
  rcases h1.2 with ⟨rfl, _⟩ | ⟨g, cap, cur, rfl, _⟩
  ·simp [Value.ownBlock]
  ·simp only [Value.ownBlock, ne_eq, Option.some.injEq]
   exact own_ne h1 (h2 i hi) hne
 have hb1n : v.ownBlock ≠ some b1 := fun e => by have := (h1.lt b1 e).2; omega
 refine ⟨?_, ?_, ?_⟩
 ·rw [lst_succ]
  simp only [if_pos]
  rw [lst_congr (g := fun i => Value.slice (some ⟨B i, 0, none⟩) m (C i)) (fun i hi => by rw [if_neg (by omega), if_neg (by omega)])]
  exact o5
 ·intro i hi
  by_cases e : i = k
  ·simp only [if_pos e]
   exact own_base ((o1.alloc ob).kept hg (.inr (by simp only [Value.ownBlock]; exact fun e => hb1n e.symm))) hbase
  ·simp only [if_neg e]
   exact (((h2 i (by omega)).kept (gr_below (r := none) hb1) (.inr (by simp [Value.ownBlock]))).alloc ob).kept hg (.inr (by simp only [Value.ownBlock]; exact fun e => hbn i (by omega) e.symm))
 ·intro i j hi hj hij
  by_cases e1 : i = k
  ·by_cases e2 : j = k
   ·omega
   ·simp only [if_pos e1, if_neg e2] at hij
    have := hB j (by omega); omega
  ·by_cases e2 : j = k
   ·simp only [if_neg e1, if_pos e2] at hij
    have := hB i (by omega); omega
   ·simp only [if_neg e1, if_neg e2] at hij
    exact h3 i j (by omega) (by omega) hij
end Go.Pi
namespace Go.Pi
open Go Go.RowKit
theorem World.grownBy.trans_own {W : World} {base e sz g n cap : Nat} {xs : List Value} (h : W.ownsRow base e sz (.slice (some ⟨g, 0, none⟩) n cap) n xs) (a b : Nat) (u v : Value) : W.grownBy ((W.setCell ⟨g, a, none⟩ u).setCell ⟨g, b, none⟩ v) (some g) := by
 obtain ⟨h1, h2⟩ := h.stored a u
 exact gr_trans h2 (h1.stored b v).2
end Go.Pi
namespace Go.Pi
open Go Go.RowKit
theorem own_ne' {w : World} {b1 b2 e1 e2 s1 s2 g2 n1 n2 c2 : Nat} {v : Value} {xs ys : List Value} (h1 : w.ownsRow b1 e1 s1 v n1 xs) (h2 : w.ownsRow b2 e2 s2 (.slice (some ⟨g2, 0, none⟩) n2 c2) n2 ys) (hne : e1 ≠ e2) : v.ownBlock ≠ some g2 := by
 rcases h1.2 with ⟨rfl, _⟩ | ⟨g, cap, cur, rfl, _⟩
 ·simp [Value.ownBlock]
 ·simp only [Value.ownBlock, ne_eq, Option.some.injEq]
  exact own_ne h1 h2 hne
end Go.Pi
namespace Go.Pi
open Go Go.RowKit
/-- a matrix, a list and a box under way, all of the call's own -/
structure OwnK (W0 W : World) (eR eS eI g cap n m : Nat) (B C : Nat → Nat) (X : Nat → Nat → Value) (v : Value) (k : Nat) (xs : List Value) (bx : Nat) (c : Int) : Prop where
 mat : OwnM W W0.heap.size eR eS g cap n m B C X
 ld : W.ownsRow W0.heap.size eI 1 v k xs
 bel : Below W0.heap.size W0 W
 box : W.heap[bx]? = some (.cells #[.int .i64 c] eI (0, 0))
namespace OwnK
variable {W0 W : World} {eR eS eI g cap n m : Nat} {B C : Nat → Nat} {X Y : Nat → Nat → Value} {v : Value} {k : Nat} {xs : List Value} {bx : Nat} {c : Int}
theorem boxCell (h : OwnK W0 W eR eS eI g cap n m B C X v k xs bx c) : W.cell? ⟨bx, 0, none⟩ = some (.int .i64 c) := by rw [Lib.cell_of_heap h.box]; rfl
theorem boxLt (h : OwnK W0 W eR eS eI g cap n m B C X v k xs bx c) : bx < W.heap.size := (Array.getElem?_eq_some_iff.1 h.box).1
theorem neBox {w : World} {b1 e1 e2 s1 n1 c1 g1 : Nat} {ys : List Value} {arr : Array Value} (h : w.ownsRow b1 e1 s1 (.slice (some ⟨g1, 0, none⟩) n1 c1) n1 ys) (hb : w.heap[bx]? = some (.cells arr e2 (0, 0))) (hne : e1 ≠ e2) : bx ≠ g1 := by
 rintro rfl
 rcases h.2 with ⟨h, _⟩ | ⟨g, cap, cur, h, _, hg, _⟩
 ·simp at h
 ·simp only [Value.slice.injEq, Option.some.injEq, Addr.mk.injEq, and_true, true_and] at h
  obtain ⟨rfl, rfl⟩ := h
  rw [hg] at hb
  cases hb
  exact hne rfl
theorem drew (h : OwnK W0 W eR eS eI g cap n m B C X v k xs bx c) : OwnK W0 W.drew eR eS eI g cap n m B C X v k xs bx c := ⟨h.mat.drew, h.ld.drew, h.bel.drew, h.box⟩
theorem below {W' : World} (h : OwnK W0 W eR eS eI g cap n m B C X v k xs bx c) (hb : Below W.heap.size W W') : OwnK W0 W' eR eS eI g cap n m B C X v k xs bx c :=
 ⟨h.mat.below hb, h.ld.kept (gr_below (r := none) hb) (Classical.em _), h.bel.trans (hb.mono h.bel.size), (hb.block bx h.boxLt).trans h.box⟩
theorem congr (h : OwnK W0 W eR eS eI g cap n m B C X v k xs bx c) (e : ∀ i, i < n → ∀ j, j < m → X i j = Y i j) : OwnK W0 W eR eS eI g cap n m B C Y v k xs bx c :=
 ⟨h.mat.congr e, h.ld, h.bel, h.box⟩
theorem setRow (h : OwnK W0 W eR eS eI g cap n m B C X v k xs bx c) (h1 : eS ≠ eI) {i : Nat} (hi : i < n) (j : Nat) (u : Value) : OwnK W0 (W.setCell ⟨B i, j, none⟩ u) eR eS eI g cap n m B C (fun a b => if a = i ∧ b = j then u else X a b) v k xs bx c := by
 have hg := ((h.mat.row i hi).stored j u).2
 refine ⟨h.mat.setRow hi j u, h.ld.kept hg (.inr (own_ne' h.ld (h.mat.row i hi) h1.symm)), h.bel.setCell (h.mat.rowLt hi).1 u, ?_⟩
 rw [hg.block bx h.boxLt (by simp only [ne_eq, Option.some.injEq]; exact neBox (h.mat.row i hi) h.box h1)]
 exact h.box
theorem swap (h : OwnK W0 W eR eS eI g cap n m B C X v k xs bx c) (h1 : eR ≠ eI) {a b : Nat} (ha : a < n) (hb : b < n) :
  OwnK W0 ((W.setCell ⟨g, a, none⟩ (.slice (some ⟨B b, 0, none⟩) m (C b))).setCell ⟨g, b, none⟩ (.slice (some ⟨B a, 0, none⟩) m (C a))) eR eS eI g cap n m
   (fun i => if i = a then B b else if i = b then B a else B i) (fun i => if i = a then C b else if i = b then C a else C i) (fun i => if i = a then X b else if i = b then X a else X i) v k xs bx c := by
 have hg := World.grownBy.trans_own h.mat.top a b (.slice (some ⟨B b, 0, none⟩) m (C b)) (.slice (some ⟨B a, 0, none⟩) m (C a))
 refine ⟨h.mat.swap ha hb, h.ld.kept hg (.inr (own_ne' h.ld h.mat.top h1.symm)), h.bel.grown hg h.bel.size (fun k hk => by cases hk; exact h.mat.topLt.1), ?_⟩
 rw [hg.block bx h.boxLt (by simp only [ne_eq, Option.some.injEq]; exact neBox h.mat.top h.box h1)]
 exact h.box
end OwnK
end Go.Pi

/-
 PLANE GEOMETRY over the rational numbers: segments. Own work.
-/
namespace Go.Ge

abbrev Pt := Rat × Rat
/-- the doubled area of a triangle -/
def ar (a b c : Pt) : Rat := (b.1 - a.1) * (c.2 - a.2) - (b.2 - a.2) * (c.1 - a.1)
/-- the order of points -/
def le (a b : Pt) : Prop := a.1 < b.1 ∨ (a.1 = b.1 ∧ a.2 ≤ b.2)
theorem le_refl (a : Pt) : le a a := .inr ⟨rfl, Rat.le_refl⟩
theorem le_trans {a b c : Pt} (h : le a b) (k : le b c) : le a c := by unfold le at *; grind
theorem le_antisymm {a b : Pt} (h : le a b) (k : le b a) : a = b := by
 have h1 : a.1 = b.1 := by unfold le at *; grind
 have h2 : a.2 = b.2 := by unfold le at *; grind
 exact Prod.ext h1 h2
/-- a place on a segment -/
def btw (a b p : Pt) : Prop := ar a b p = 0 ∧ (le a p ∧ le p b ∨ le b p ∧ le p a)
def onS (a b p : Pt) : Prop := ∃ t : Rat, 0 ≤ t ∧ t ≤ 1 ∧ p.1 = a.1 + t * (b.1 - a.1) ∧ p.2 = a.2 + t * (b.2 - a.2)
end Go.Ge

/-
 ELIMINATION, plain: matrices as functions of two indices. Own work.
-/
namespace Go.Mx

abbrev Mtx := Nat → Nat → Rat

/-- the first row from i on, among f, whose number in column c is not 0 -/
def lookM (F : Mtx) (c : Nat) : Nat → Nat → Nat
 | 0, i => i
 | f + 1, i => if F i c = 0 then lookM F c f (i + 1) else i

/-- rows k and p exchanged -/
def swpM (F : Mtx) (k p : Nat) : Mtx := fun i => if i = k then F p else if i = p then F k else F i
/-- row k divided by its number in column c -/
def sclM (F : Mtx) (k c : Nat) : Mtx := fun i => if i = k then fun j => F k j / F k c else F i
/-- row k taken from all other rows, so that these have 0 in column c -/
def clrM (F : Mtx) (k c : Nat) : Mtx := fun i => if i = k then F k else fun j => F i j - F i c * F k j

structure RSt where
 F : Mtx
 lead : List Nat
 fac : Rat
 gap : Bool

/-- one column -/
def stpM (n : Nat) (s : RSt) (c : Nat) : RSt :=
 let k := s.lead.length
 let p := lookM s.F c (n - k) k
 if p < n then ⟨clrM (sclM (swpM s.F k p) k c) k c, s.lead ++ [c], (if p = k then s.fac else -s.fac) * s.F p c, s.gap⟩
 else { s with gap := true }
/-- w columns -/
def redM (n : Nat) (F : Mtx) : Nat → RSt
 | 0 => ⟨F, [], 1, false⟩
 | w + 1 => stpM n (redM n F w) w

theorem look_ge (F : Mtx) (c : Nat) : ∀ f i, i ≤ lookM F c f i ∧ lookM F c f i ≤ i + f
 | 0, i => by simp [lookM]
 | f + 1, i => by
   unfold lookM
   split
   ·have := look_ge F c f (i + 1); omega
   ·omega
theorem look_before (F : Mtx) (c : Nat) : ∀ f i j, i ≤ j → j < lookM F c f i → F j c = 0
 | 0, i, j, h1, h2 => by simp [lookM] at h2; omega
 | f + 1, i, j, h1, h2 => by
   unfold lookM at h2
   split at h2
   ·by_cases e : j = i
    ·subst e; assumption
    ·exact look_before F c f (i + 1) j (by omega) h2
   ·omega
theorem look_at (F : Mtx) (c : Nat) : ∀ f i, lookM F c f i < i + f → F (lookM F c f i) c ≠ 0
 | 0, i, h => by simp [lookM] at h
 | f + 1, i, h => by
   unfold lookM at h ⊢
   split
   ·rename_i h0
    rw [if_pos h0] at h
    exact look_at F c f (i + 1) (by omega)
   ·assumption
theorem look_spec {F : Mtx} {n k c : Nat} (hk : k ≤ n) : (lookM F c (n - k) k < n → F (lookM F c (n - k) k) c ≠ 0 ∧ k ≤ lookM F c (n - k) k) ∧ (¬lookM F c (n - k) k < n → ∀ i, k ≤ i → i < n → F i c = 0) := by
 have h1 := look_ge F c (n - k) k
 refine ⟨fun h => ⟨look_at F c (n - k) k (by omega), h1.1⟩, fun h i hi hn => look_before F c (n - k) k i hi (by omega)⟩

/-! ### the shape of what is reached -/
/-- after w columns: the leading columns are units, and what is below is 0 -/
structure GoodR (n w : Nat) (s : RSt) : Prop where
 len : s.lead.length ≤ n
 lt : ∀ c ∈ s.lead, c < w
 inc : s.lead.Pairwise (· < ·)
 unit : ∀ (t c : Nat), s.lead[t]? = some c → ∀ i, i < n → s.F i c = if i = t then 1 else 0
 left : ∀ (t c : Nat), s.lead[t]? = some c → ∀ j, j < c → s.F t j = 0
 below : ∀ i j, s.lead.length ≤ i → i < n → j < w → s.F i j = 0

theorem good_zero (n : Nat) (F : Mtx) : GoodR n 0 (redM n F 0) := by
 refine ⟨Nat.zero_le _, by simp [redM], by simp [redM], by simp [redM], by simp [redM], fun i j _ _ h => by omega⟩

theorem stp_found {n : Nat} {s : RSt} {c : Nat} (h : lookM s.F c (n - s.lead.length) s.lead.length < n) :
  stpM n s c = ⟨clrM (sclM (swpM s.F s.lead.length (lookM s.F c (n - s.lead.length) s.lead.length)) s.lead.length c) s.lead.length c, s.lead ++ [c], (if lookM s.F c (n - s.lead.length) s.lead.length = s.lead.length then s.fac else -s.fac) * s.F (lookM s.F c (n - s.lead.length) s.lead.length) c, s.gap⟩ := by
 unfold stpM; simp only [if_pos h]
theorem stp_not {n : Nat} {s : RSt} {c : Nat} (h : ¬lookM s.F c (n - s.lead.length) s.lead.length < n) : stpM n s c = { s with gap := true } := by
 unfold stpM; simp only [if_neg h]

/-- the numbers after one column -/
theorem clr_at (F : Mtx) (k p c i j : Nat) : clrM (sclM (swpM F k p) k c) k c i j = if i = k then F p j / F p c else swpM F k p i j - swpM F k p i c * (F p j / F p c) := by
 have e : swpM F k p k = F p := by simp [swpM]
 have e1 : ∀ x, sclM (swpM F k p) k c k x = F p x / F p c := fun x => by simp [sclM, e]
 unfold clrM
 by_cases h : i = k
 ·subst h; simp only [if_true]; exact e1 j
 ·rw [if_neg h, if_neg h]
  have e2 : sclM (swpM F k p) k c i = swpM F k p i := by simp [sclM, h]
  simp only [e2, e1]

theorem good_stp {n w : Nat} {s : RSt} (h : GoodR n w s) : GoodR n (w + 1) (stpM n s w) := by
 by_cases hf : lookM s.F w (n - s.lead.length) s.lead.length < n
 ·rw [stp_found hf]
  obtain ⟨hp, hk⟩ := (look_spec h.len).1 hf
  generalize lookM s.F w (n - s.lead.length) s.lead.length = p at *
  have hz : ∀ j, j < w → s.F p j = 0 := fun j hj => h.below p j hk hf hj
  have hsw : ∀ i j, s.lead.length ≤ i → i < n → j < w → swpM s.F s.lead.length p i j = 0 := by
   intro i j h1 h2 h3
   unfold swpM
   split
   ·exact h.below p j hk hf h3
   ·split
    ·exact h.below _ j (Nat.le_refl _) (by omega) h3
    ·exact h.below i j h1 h2 h3
  have hlow : ∀ i, i < s.lead.length → swpM s.F s.lead.length p i = s.F i := by
   intro i hi
   unfold swpM
   rw [if_neg (by omega), if_neg (by omega)]
  have d0 : ∀ x : Rat, (0 : Rat) / x = 0 := fun x => by rw [Rat.div_def, Rat.zero_mul]
  have d1 : s.F p w / s.F p w = 1 := by rw [Rat.div_def, Rat.mul_inv_cancel _ hp]
  refine ⟨by simp; omega, ?_, ?_, ?_, ?_, ?_⟩
  ·intro c hc
   rcases List.mem_append.1 hc with hc | hc
   ·have := h.lt c hc; omega
   ·simp at hc; omega
  ·rw [List.pairwise_append]
   refine ⟨h.inc, by simp, fun a ha b hb => ?_⟩
   simp at hb; subst hb; exact h.lt a ha
  ·intro t c hc i hi
   simp only at hc ⊢
   rw [clr_at]
   rw [List.getElem?_append] at hc
   split at hc
   ·rename_i htl
    have hcw := h.lt c (List.mem_of_getElem? hc)
    rw [hz c hcw, d0, Rat.mul_zero]
    by_cases e : i = s.lead.length
    ·rw [if_pos e, if_neg (by omega)]
    ·rw [if_neg e]
     by_cases hi2 : i < s.lead.length
     ·rw [hlow i hi2, h.unit t c hc i hi]
      split <;> grind
     ·rw [hsw i c (by omega) hi hcw, if_neg (by omega)]; grind
   ·rename_i htl
    obtain ⟨ht, rfl⟩ : t = s.lead.length ∧ w = c := by
     have := (List.getElem?_eq_some_iff.1 hc)
     obtain ⟨h1, h2⟩ := this
     simp at h1
     refine ⟨by omega, ?_⟩
     simpa [show t - s.lead.length = 0 by omega] using h2
    subst ht
    rw [d1]
    split
    ·rfl
    ·grind
  ·intro t c hc j hj
   simp only at hc ⊢
   rw [clr_at]
   rw [List.getElem?_append] at hc
   split at hc
   ·rename_i htl
    have hcw := h.lt c (List.mem_of_getElem? hc)
    rw [if_neg (by omega), hz j (by omega), d0, Rat.mul_zero, hlow t htl, h.left t c hc j hj]; grind
   ·rename_i htl
    obtain ⟨ht, rfl⟩ : t = s.lead.length ∧ w = c := by
     have := (List.getElem?_eq_some_iff.1 hc)
     obtain ⟨h1, h2⟩ := this
     simp at h1
     refine ⟨by omega, ?_⟩
     simpa [show t - s.lead.length = 0 by omega] using h2
    rw [if_pos ht, hz j hj, d0]
  ·intro i j h1 h2 h3
   simp only [List.length_append, List.length_singleton] at h1 ⊢
   rw [clr_at, if_neg (by omega)]
   by_cases hj : j = w
   ·subst hj; rw [d1]; grind
   ·rw [hz j (by omega), d0, Rat.mul_zero, hsw i j (by omega) h2 (by omega)]; grind
 ·rw [stp_not hf]
  have hz := (look_spec h.len).2 hf
  refine ⟨h.len, fun c hc => by have := h.lt c hc; omega, h.inc, h.unit, h.left, fun i j h1 h2 h3 => ?_⟩
  simp only at h1 ⊢
  by_cases hj : j = w
  ·subst hj; exact hz i h1 h2
  ·exact h.below i j h1 h2 (by omega)
theorem good_red (n : Nat) (F : Mtx) : ∀ w, GoodR n w (redM n F w)
 | 0 => good_zero n F
 | w + 1 => good_stp (good_red n F w)
/-- with all rows leading nothing changes any more -/
theorem stp_full {n : Nat} {s : RSt} {c : Nat} (h : s.lead.length = n) : stpM n s c = { s with gap := true } := stp_not (by
 have := (look_ge s.F c (n - s.lead.length) s.lead.length).1; omega)
end Go.Mx

/-
 ELIMINATION, plain: solutions stay. Own work.
-/
namespace Go.Mx

def sm : Nat → (Nat → Rat) → Rat
 | 0, _ => 0
 | n + 1, f => sm n f + f n
theorem sm_congr {f g : Nat → Rat} : ∀ {n : Nat}, (∀ i, i < n → f i = g i) → sm n f = sm n g
 | 0, _ => rfl
 | n + 1, h => by simp only [sm]; rw [sm_congr (fun i hi => h i (by omega)), h n (by omega)]
theorem sm_zero : ∀ (n : Nat), sm n (fun _ => 0) = 0
 | 0 => rfl
 | n + 1 => by simp only [sm]; rw [sm_zero n, Rat.add_zero]
theorem sm_nil {f : Nat → Rat} {n : Nat} (h : ∀ i, i < n → f i = 0) : sm n f = 0 := (sm_congr h).trans (sm_zero n)
theorem sm_add (f g : Nat → Rat) : ∀ (n : Nat), sm n (fun i => f i + g i) = sm n f + sm n g
 | 0 => by simp only [sm]; grind
 | n + 1 => by simp only [sm]; rw [sm_add f g n]; grind
theorem sm_mul (a : Rat) (f : Nat → Rat) : ∀ (n : Nat), sm n (fun i => a * f i) = a * sm n f
 | 0 => by simp only [sm]; grind
 | n + 1 => by simp only [sm]; rw [sm_mul a f n]; grind
theorem sm_sub (f g : Nat → Rat) (n : Nat) : sm n (fun i => f i - g i) = sm n f - sm n g := by
 have h := sm_add f (fun i => (-1 : Rat) * g i) n
 rw [sm_mul] at h
 rw [← show sm n (fun i => f i + (-1 : Rat) * g i) = sm n (fun i => f i - g i) from sm_congr fun i _ => by grind, h]; grind
theorem sm_one {f : Nat → Rat} {k : Nat} : ∀ {n : Nat}, k < n → (∀ i, i < n → i ≠ k → f i = 0) → sm n f = f k
 | 0, h, _ => by omega
 | n + 1, h, hz => by
   simp only [sm]
   by_cases e : k = n
   ·subst e
    rw [sm_nil (fun i hi => hz i (by omega) (by omega)), Rat.zero_add]
   ·rw [sm_one (by omega) (fun i hi => hz i (by omega)), hz n (by omega) (by omega), Rat.add_zero]
theorem sm_swap (f : Nat → Nat → Rat) (m : Nat) : ∀ (n : Nat), sm n (fun i => sm m (fun j => f i j)) = sm m (fun j => sm n (fun i => f i j))
 | 0 => by simp only [sm]; exact (sm_zero m).symm
 | n + 1 => by simp only [sm]; rw [sm_swap f m n, ← sm_add]
theorem sm_app (f : Nat → Rat) (n : Nat) : ∀ (k : Nat), sm (n + k) f = sm n f + sm k (fun i => f (n + i))
 | 0 => by simp only [sm, Nat.add_zero]; grind
 | k + 1 => by rw [← Nat.add_assoc]; simp only [sm]; rw [sm_app f n k]; grind

/-- a row's sum of products -/
def dotM (m : Nat) (r x : Nat → Rat) : Rat := sm m fun j => r j * x j
def Sol (n m : Nat) (F : Mtx) (x : Nat → Rat) : Prop := ∀ i, i < n → dotM m (F i) x = 0

theorem dot_congr {m : Nat} {r s x y : Nat → Rat} (h1 : ∀ j, j < m → r j = s j) (h2 : ∀ j, j < m → x j = y j) : dotM m r x = dotM m s y := sm_congr fun j hj => by rw [h1 j hj, h2 j hj]
theorem dot_sub (m : Nat) (r s x : Nat → Rat) (b : Rat) : dotM m (fun j => r j - b * s j) x = dotM m r x - b * dotM m s x := by
 unfold dotM
 rw [← sm_mul, ← sm_sub]
 exact sm_congr fun j _ => by grind
theorem dot_div (m : Nat) (r x : Nat → Rat) (b : Rat) : dotM m (fun j => r j / b) x = b⁻¹ * dotM m r x := by
 unfold dotM
 rw [← sm_mul]
 exact sm_congr fun j _ => by show r j / b * x j = _; rw [Rat.div_def]; grind
theorem sol_swp {n m k p : Nat} {F : Mtx} {x : Nat → Rat} (hk : k < n) (hp : p < n) : Sol n m (swpM F k p) x ↔ Sol n m F x := by
 unfold Sol swpM
 constructor
 ·intro h i hi
  by_cases e : i = k
  ·subst e
   have := h p hp
   by_cases e2 : p = i
   ·subst e2; simpa using this
   ·rw [if_neg e2, if_pos rfl] at this; exact this
  ·by_cases e2 : i = p
   ·subst e2
    have := h k hk
    rw [if_pos rfl] at this; exact this
   ·have := h i hi
    rw [if_neg e, if_neg e2] at this; exact this
 ·intro h i hi
  split
  ·exact h p hp
  ·split
   ·exact h k hk
   ·exact h i hi
theorem sol_scl {n m k c : Nat} {F : Mtx} {x : Nat → Rat} (hk : k < n) (h0 : F k c ≠ 0) : Sol n m (sclM F k c) x ↔ Sol n m F x := by
 have hi0 : (F k c)⁻¹ ≠ 0 := fun h => h0 (by rw [← Rat.inv_inv (F k c), h]; decide +kernel)
 unfold Sol sclM
 constructor
 ·intro h i hi
  by_cases e : i = k
  ·subst e
   have := h i hi
   rw [if_pos rfl, dot_div] at this
   rcases Rat.mul_eq_zero.1 this with h1 | h1
   ·exact absurd h1 hi0
   ·exact h1
  ·have := h i hi
   rw [if_neg e] at this; exact this
 ·intro h i hi
  split
  ·rw [dot_div, h k hk, Rat.mul_zero]
  ·exact h i hi
theorem sol_clr {n m k c : Nat} {F : Mtx} {x : Nat → Rat} (hk : k < n) : Sol n m (clrM F k c) x ↔ Sol n m F x := by
 unfold Sol clrM
 constructor
 ·intro h i hi
  have h0 := h k hk
  rw [if_pos rfl] at h0
  by_cases e : i = k
  ·subst e; exact h0
  ·have := h i hi
   rw [if_neg e, dot_sub, h0] at this
   grind
 ·intro h i hi
  split
  ·exact h k hk
  ·rw [dot_sub, h i hi, h k hk]; grind
theorem sol_stp {n m c : Nat} {s : RSt} {x : Nat → Rat} (hl : s.lead.length ≤ n) : Sol n m (stpM n s c).F x ↔ Sol n m s.F x := by
 by_cases hf : lookM s.F c (n - s.lead.length) s.lead.length < n
 ·rw [stp_found hf]
  obtain ⟨hp, hk⟩ := (look_spec hl).1 hf
  rw [sol_clr (by omega), sol_scl (by omega) (by simpa [swpM] using hp), sol_swp (by omega) hf]
 ·rw [stp_not hf]
theorem sol_red {n m : Nat} {F : Mtx} {x : Nat → Rat} : ∀ {w : Nat}, Sol n m (redM n F w).F x ↔ Sol n m F x
 | 0 => Iff.rfl
 | w + 1 => (sol_stp (good_red n F w).len).trans sol_red

/-! ### the basis of the kernel -/
/-- the place of a column among the leading ones -/
def posn (lead : List Nat) (c : Nat) : Option Nat := lead.findIdx? (· == c)
/-- the list of the kernel that belongs to the free column c: 1 there, and at each leading column what it needs -/
def kerV (s : RSt) (c : Nat) : Nat → Rat := fun j => if j = c then 1 else match posn s.lead j with
 | some t => -s.F t c
 | none => 0
theorem posn_some {lead : List Nat} {c t : Nat} (h : posn lead c = some t) : lead[t]? = some c := by
 unfold posn at h
 have := List.findIdx?_eq_some_iff_getElem.1 h
 obtain ⟨h1, h2, _⟩ := this
 rw [List.getElem?_eq_getElem h1]
 simpa using h2
theorem posn_none {lead : List Nat} {c : Nat} : posn lead c = none ↔ c ∉ lead := by
 unfold posn
 rw [List.findIdx?_eq_none_iff]
 constructor
 ·intro h hc; simpa using h c hc
 ·intro h x hx; simp; exact fun e => h (e ▸ hx)
theorem inc_inj {lead : List Nat} (h : lead.Pairwise (· < ·)) {t u c : Nat} (h1 : lead[t]? = some c) (h2 : lead[u]? = some c) : t = u := by
 obtain ⟨a1, e1⟩ := List.getElem?_eq_some_iff.1 h1
 obtain ⟨a2, e2⟩ := List.getElem?_eq_some_iff.1 h2
 rw [List.pairwise_iff_getElem] at h
 rcases Nat.lt_trichotomy t u with hlt | he | hlt
 ·have := h t u a1 a2 hlt; omega
 ·exact he
 ·have := h u t a2 a1 hlt; omega
theorem posn_of {lead : List Nat} (h : lead.Pairwise (· < ·)) {t c : Nat} (h1 : lead[t]? = some c) : posn lead c = some t := by
 cases hp : posn lead c with
 | none => exact absurd (List.mem_of_getElem? h1) (posn_none.1 hp)
 | some u => rw [inc_inj h (posn_some hp) h1]
/-- a row of the reduced form and a list: the leading number and the free ones -/
theorem row_dot {n m : Nat} {s : RSt} (h : GoodR n m s) {t c : Nat} (ht : s.lead[t]? = some c) (hn : t < n) (x : Nat → Rat) : dotM m (s.F t) x = x c + sm m (fun j => if j ∈ s.lead then 0 else s.F t j * x j) := by
 have hc := h.lt c (List.mem_of_getElem? ht)
 have e : ∀ j, j < m → s.F t j * x j = (if j = c then x c else 0) + (if j ∈ s.lead then 0 else s.F t j * x j) := by
  intro j hj
  by_cases hm : j ∈ s.lead
  ·rw [if_pos hm]
   obtain ⟨u, hu⟩ := List.getElem?_of_mem hm
   have := h.unit u j hu t hn
   rw [this]
   by_cases e1 : t = u
   ·subst e1
    rw [ht] at hu; cases hu
    simp; grind
   ·have hjc : j ≠ c := fun e2 => by subst e2; exact e1 (inc_inj h.inc ht hu)
    rw [if_neg e1, if_neg hjc]; grind
  ·rw [if_neg hm, if_neg (fun e2 => hm (by rw [e2]; exact List.mem_of_getElem? ht))]; grind
 unfold dotM
 rw [sm_congr e, sm_add, sm_one hc (fun i _ hi => if_neg hi), if_pos rfl]
theorem ker_sol {n m c : Nat} {s : RSt} (h : GoodR n m s) (hc : c < m) (hf : c ∉ s.lead) : Sol n m s.F (kerV s c) := by
 intro i hi
 by_cases hl : i < s.lead.length
 ·have ht : s.lead[i]? = some s.lead[i] := List.getElem?_eq_getElem hl
  generalize s.lead[i] = d at ht
  rw [row_dot h ht hi, sm_one hc, if_neg hf]
  ·have e1 : kerV s c c = 1 := by simp [kerV]
   have e2 : kerV s c d = -s.F i c := by
    have hne : d ≠ c := fun e => hf (by rw [← e]; exact List.mem_of_getElem? ht)
    simp only [kerV, if_neg hne, posn_of h.inc ht]
   rw [e1, e2]; grind
  ·intro j hj hne
   split
   ·rfl
   ·rename_i hm
    have : kerV s c j = 0 := by simp only [kerV, if_neg hne, posn_none.2 hm]
    rw [this, Rat.mul_zero]
 ·exact sm_nil fun j hj => by rw [h.below i j (by omega) hi hj, Rat.zero_mul]
end Go.Mx

/-
 ELIMINATION, plain: rank and kernel; the rank of the transposed matrix. Own work.
-/
namespace Go.Mx

def freeC (lead : List Nat) (m : Nat) : List Nat := (List.range m).filter fun c => !(lead.contains c)
theorem mem_free {lead : List Nat} {m c : Nat} : c ∈ freeC lead m ↔ c < m ∧ c ∉ lead := by
 unfold freeC; rw [List.mem_filter, List.mem_range]; simp
theorem free_count {lead : List Nat} {m : Nat} (h : lead.Pairwise (· < ·)) (hl : ∀ c ∈ lead, c < m) : lead.length + (freeC lead m).length = m := by
 have nd : lead.Nodup := by
  unfold List.Nodup
  exact h.imp fun h => Nat.ne_of_lt h
 have p1 : ((List.range m).filter fun c => lead.contains c).Perm lead := by
  refine (List.perm_ext_iff_of_nodup (List.Pairwise.filter _ List.nodup_range) nd).2 fun a => ?_
  rw [List.mem_filter, List.mem_range]
  simp
  exact fun ha => hl a ha
 have p2 := List.filter_append_perm (fun c => lead.contains c) (List.range m)
 have e1 := p1.length_eq
 have e2 := p2.length_eq
 rw [List.length_append, List.length_range, e1] at e2
 exact e2
theorem free_some {lead : List Nat} {m : Nat} (h : lead.Pairwise (· < ·)) (hl : ∀ c ∈ lead, c < m) (hlt : lead.length < m) : ∃ c, c < m ∧ c ∉ lead := by
 have hc := free_count h hl
 cases hf : freeC lead m with
 | nil => rw [hf] at hc; simp at hc; omega
 | cons c l => exact ⟨c, mem_free.1 (by rw [hf]; exact List.mem_cons_self ..)⟩
theorem free_none {lead : List Nat} {m : Nat} (h : lead.Pairwise (· < ·)) (hl : ∀ c ∈ lead, c < m) (he : lead.length = m) : ∀ c, c < m → c ∈ lead := by
 intro c hc
 apply Decidable.byContradiction
 intro hn
 have h1 := free_count h hl
 have : (freeC lead m).length = 0 := by omega
 have h2 := mem_free.2 ⟨hc, hn⟩
 rw [List.length_eq_zero_iff.1 this] at h2
 simp at h2
/-- all columns lead: the t-th column is the t-th leading one -/
theorem lead_all {lead : List Nat} {m : Nat} (h : lead.Pairwise (· < ·)) (hl : ∀ c ∈ lead, c < m) (he : lead.length = m) : lead = List.range m := by
 have nd : lead.Nodup := h.imp fun h => Nat.ne_of_lt h
 have p : lead.Perm (List.range m) := (List.perm_ext_iff_of_nodup nd List.nodup_range).2 fun a => ⟨fun ha => List.mem_range.2 (hl a ha), fun ha => free_none h hl he a (List.mem_range.1 ha)⟩
 exact p.eq_of_pairwise (le := (· < ·)) (fun a b _ _ h1 h2 => by omega) h List.pairwise_lt_range

def ldM (s : RSt) (t : Nat) : Nat := s.lead.getD t 0
def trM (F : Mtx) : Mtx := fun i j => F j i
end Go.Mx

/-
 ELIMINATION, plain: what it depends on; the reduced form of the reduced form; inverse; systems. Own work.
-/
namespace Go.Mx

def Agr (n m : Nat) (F G : Mtx) : Prop := ∀ i, i < n → ∀ j, j < m → F i j = G i j
theorem Agr.refl (n m : Nat) (F : Mtx) : Agr n m F F := fun _ _ _ _ => rfl
theorem look_congr {n m : Nat} {F G : Mtx} (h : Agr n m F G) {c : Nat} (hc : c < m) : ∀ f i, i + f ≤ n → lookM F c f i = lookM G c f i
 | 0, _, _ => rfl
 | f + 1, i, hi => by
   unfold lookM
   rw [h i (by omega) c hc, look_congr h hc f (i + 1) (by omega)]
theorem stp_congr {n m : Nat} {s t : RSt} (h : Agr n m s.F t.F) (hl : s.lead = t.lead) (hf : s.fac = t.fac) (hg : s.gap = t.gap) (hn : s.lead.length ≤ n) {c : Nat} (hc : c < m) :
  Agr n m (stpM n s c).F (stpM n t c).F ∧ (stpM n s c).lead = (stpM n t c).lead ∧ (stpM n s c).fac = (stpM n t c).fac ∧ (stpM n s c).gap = (stpM n t c).gap := by
 have e := look_congr h hc (n - s.lead.length) s.lead.length (by omega)
 by_cases hx : lookM s.F c (n - s.lead.length) s.lead.length < n
 ·have hk := ((look_spec hn).1 hx).2
  have hx2 : lookM t.F c (n - t.lead.length) t.lead.length < n := by rw [← hl, ← e]; exact hx
  rw [stp_found hx, stp_found hx2, ← hl, ← e]
  generalize lookM s.F c (n - s.lead.length) s.lead.length = p at *
  refine ⟨fun i hi j hj => ?_, rfl, ?_, hg⟩
  ·simp only [clr_at]
   have hs : ∀ j, j < m → swpM s.F s.lead.length p i j = swpM t.F s.lead.length p i j := by
    intro j hj
    unfold swpM
    split
    ·exact h p hx j hj
    ·split
     ·exact h _ (by omega) j hj
     ·exact h i hi j hj
   rw [h p hx j hj, h p hx c hc, hs j hj, hs c hc]
  ·simp only [hf, h p hx c hc]
 ·have hx2 : ¬lookM t.F c (n - t.lead.length) t.lead.length < n := by rw [← hl, ← e]; exact hx
  rw [stp_not hx, stp_not hx2]
  exact ⟨h, hl, hf, rfl⟩
theorem red_congr {n m : Nat} {F G : Mtx} (h : Agr n m F G) : ∀ {w : Nat}, w ≤ m → Agr n m (redM n F w).F (redM n G w).F ∧ (redM n F w).lead = (redM n G w).lead ∧ (redM n F w).fac = (redM n G w).fac ∧ (redM n F w).gap = (redM n G w).gap
 | 0, _ => ⟨h, rfl, rfl, rfl⟩
 | w + 1, hw => by
   obtain ⟨h1, h2, h3, h4⟩ := red_congr h (w := w) (by omega)
   exact stp_congr h1 h2 h3 h4 (good_red n F w).len (by omega)

/-! ### the reduced form of the reduced form -/
def wideM (m : Nat) (F G : Mtx) : Mtx := fun i j => if j < m then F i j else G i (j - m)
def oneM : Mtx := fun i j => if i = j then 1 else 0
theorem wide_lead {n m : Nat} (F G : Mtx) : (redM n (wideM m F G) m).lead = (redM n F m).lead ∧ (redM n (wideM m F G) m).fac = (redM n F m).fac := by
 have h := red_congr (n := n) (m := m) (F := wideM m F G) (G := F) (fun i _ j hj => by simp [wideM, hj]) (Nat.le_refl m)
 exact ⟨h.2.1, h.2.2.1⟩
theorem dot_wide (m k : Nat) (F G : Mtx) (i : Nat) (x : Nat → Rat) : dotM (m + k) (wideM m F G i) x = dotM m (F i) x + dotM k (G i) (fun j => x (m + j)) := by
 unfold dotM
 rw [sm_app]
 congr 1
 ·exact sm_congr fun j hj => by simp [wideM, hj]
 ·exact sm_congr fun j hj => by have : ¬(m + j < m) := by omega
                                simp [wideM, this]
theorem dot_one {n i : Nat} (hi : i < n) (x : Nat → Rat) : dotM n (oneM i) x = x i := by
 unfold dotM
 rw [sm_one hi (fun j _ hne => by simp [oneM, Ne.symm hne])]
 simp [oneM]
theorem good_full {n : Nat} {s : RSt} (h : GoodR n n s) (hl : s.lead.length = n) : ∀ i, i < n → ∀ j, j < n → s.F i j = oneM i j := by
 intro i hi j hj
 have hr := lead_all h.inc h.lt hl
 have e : s.lead[j]? = some j := by rw [hr]; simp [hj]
 rw [h.unit j j e i hi]; rfl
section
variable {n : Nat} {F : Mtx}
/-- what stands beside the units -/
def invM (n : Nat) (F : Mtx) : Mtx := fun i j => (redM n (wideM n F oneM) n).F i (n + j)
theorem inv_dot (hl : (redM n F n).lead.length = n) {i : Nat} (hi : i < n) (x : Nat → Rat) : dotM (n + n) ((redM n (wideM n F oneM) n).F i) x = x i + dotM n (invM n F i) (fun j => x (n + j)) := by
 have hg := good_full (good_red n (wideM n F oneM) n) (by rw [(wide_lead F oneM).1]; exact hl)
 unfold dotM
 rw [sm_app]
 congr 1
 rw [sm_congr (fun j hj => show (redM n (wideM n F oneM) n).F i j * x j = oneM i j * x j by rw [hg i hi j hj])]
 exact dot_one hi x
theorem inv_right (hl : (redM n F n).lead.length = n) {i c : Nat} (hi : i < n) (hc : c < n) : dotM n (F i) (fun j => invM n F j c) = oneM i c := by
 let x : Nat → Rat := fun j => if j < n then invM n F j c else if j - n = c then -1 else 0
 have hx : Sol n (n + n) (redM n (wideM n F oneM) n).F x := by
  intro t ht
  rw [inv_dot hl ht]
  have e1 : x t = invM n F t c := by simp [x, ht]
  have e2 : dotM n (invM n F t) (fun j => x (n + j)) = -invM n F t c := by
   unfold dotM
   rw [sm_one hc]
   ·have : ¬(n + c < n) := by omega
    simp [x, this]; grind
   ·intro j hj hne
    have : ¬(n + j < n) := by omega
    simp [x, this, hne]
  rw [e1, e2]; grind
 have := sol_red.1 hx i hi
 rw [dot_wide] at this
 have e1 : dotM n (F i) x = dotM n (F i) (fun j => invM n F j c) := dot_congr (fun _ _ => rfl) fun j hj => by simp [x, hj]
 have e2 : dotM n (oneM i) (fun j => x (n + j)) = -oneM i c := by
  rw [dot_one hi]
  have : ¬(n + i < n) := by omega
  simp only [x, oneM, this, if_false, show n + i - n = i by omega]
  split <;> grind
 rw [e1, e2] at this
 grind
end
/-! products of three -/
theorem dot_dot {n m : Nat} (A B : Mtx) (i : Nat) (x : Nat → Rat) : dotM n (fun j => dotM m (A i) (fun t => B t j)) x = dotM m (A i) (fun t => dotM n (B t) x) := by
 unfold dotM
 rw [sm_congr (fun j _ => show sm m (fun t => A i t * B t j) * x j = sm m (fun t => A i t * (B t j * x j)) by rw [Rat.mul_comm, ← sm_mul]; exact sm_congr fun t _ => by grind), sm_swap]
 exact sm_congr fun t _ => by rw [← sm_mul]
/-- a matrix with an inverse on the left has no free column -/
theorem full_of_left {n : Nat} {A B : Mtx} (h : ∀ i, i < n → ∀ c, c < n → dotM n (A i) (fun j => B j c) = oneM i c) : (redM n B n).lead.length = n := by
 have hg := good_red n B n
 apply Decidable.byContradiction
 intro hne
 obtain ⟨c, hc, hf⟩ := free_some hg.inc hg.lt (Nat.lt_of_le_of_ne hg.len hne)
 have hs := sol_red.1 (ker_sol hg hc hf)
 have h1 : kerV (redM n B n) c c = 1 := by simp [kerV]
 generalize kerV (redM n B n) c = y at *
 have e := dot_dot (n := n) (m := n) A B c y
 have e1 : dotM n (fun j => dotM n (A c) (fun t => B t j)) y = y c := by
  rw [dot_congr (fun j hj => h c hc j hj) (fun _ _ => rfl)]
  exact dot_one hc y
 have e2 : dotM n (A c) (fun t => dotM n (B t) y) = 0 := sm_nil fun t ht => by show A c t * dotM n (B t) y = 0; rw [hs t ht, Rat.mul_zero]
 rw [e1, e2, h1] at e
 exact absurd e (by decide +kernel)
theorem inv_full {n : Nat} {F : Mtx} (hl : (redM n F n).lead.length = n) : (redM n (invM n F) n).lead.length = n := full_of_left (A := F) fun _ hi _ hc => inv_right hl hi hc
theorem inv_inv {n : Nat} {F : Mtx} (hl : (redM n F n).lead.length = n) {i c : Nat} (hi : i < n) (hc : c < n) : invM n (invM n F) i c = F i c := by
 have hv := inv_full hl
 have e := dot_dot (n := n) (m := n) F (invM n F) i (fun j => invM n (invM n F) j c)
 rw [dot_congr (r := fun j => dotM n (F i) (fun t => invM n F t j)) (s := oneM i) (fun j hj => inv_right hl hi hj) (fun _ _ => rfl), dot_one hi] at e
 rw [e, dot_congr (r := F i) (s := F i) (x := fun t => dotM n (invM n F t) (fun j => invM n (invM n F) j c)) (y := fun t => oneM t c) (fun _ _ => rfl) (fun t ht => inv_right hv ht hc)]
 unfold dotM
 rw [sm_one hc]
 ·simp [oneM]
 ·intro j _ hne; simp [oneM, hne]
end Go.Mx

/-
 ELIMINATION, plain: the determinant of up to four rows. Own work.
-/
namespace Go.Mx

/-- at most four rows, filled up with units -/
def padM (n : Nat) (F : Mtx) : Mtx := fun i j => if i < n ∧ j < n then F i j else oneM i j
def D4 (F : Mtx) : Rat :=
 (F 0 0 * F 1 1 - F 0 1 * F 1 0) * (F 2 2 * F 3 3 - F 2 3 * F 3 2) - (F 0 0 * F 1 2 - F 0 2 * F 1 0) * (F 2 1 * F 3 3 - F 2 3 * F 3 1)
 + (F 0 0 * F 1 3 - F 0 3 * F 1 0) * (F 2 1 * F 3 2 - F 2 2 * F 3 1) + (F 0 1 * F 1 2 - F 0 2 * F 1 1) * (F 2 0 * F 3 3 - F 2 3 * F 3 0)
 - (F 0 1 * F 1 3 - F 0 3 * F 1 1) * (F 2 0 * F 3 2 - F 2 2 * F 3 0) + (F 0 2 * F 1 3 - F 0 3 * F 1 2) * (F 2 0 * F 3 1 - F 2 1 * F 3 0)
def addR (F : Mtx) (i k : Nat) (b : Rat) : Mtx := fun r => if r = i then fun j => F i j - b * F k j else F r
def mulR (F : Mtx) (k : Nat) (x : Rat) : Mtx := fun r => if r = k then fun j => x * F k j else F r
def Dt (n : Nat) (F : Mtx) : Rat := D4 (padM n F)
section
variable {n : Nat} (hn : n ≤ 4)
include hn
end
/-! ### products -/
def prodM (n : Nat) (A B : Mtx) : Mtx := fun i j => dotM n (A i) (fun t => B t j)
/-- rows with the k-th one taken from the others, by any numbers -/
def clrB (F : Mtx) (k : Nat) (b : Nat → Rat) : Mtx := fun i => if i = k then F k else fun j => F i j - b i * F k j
/-- the determinant by elimination -/
def detM (n : Nat) (A : Mtx) : Rat := if (redM n A n).lead.length < n then 0 else (redM n A n).fac
end Go.Mx

/-
 ELIMINATION, plain: how great the numbers become; columns beside. Own work.
-/
namespace Go.Mx

/-- a number with a numerator up to 10^k and a denominator up to 10^l -/
def NB (k l : Nat) (q : Rat) : Prop := ∃ (u : Int) (d : Nat), 0 < d ∧ d ≤ 10 ^ l ∧ u.natAbs ≤ 10 ^ k ∧ q * (d : Rat) = (u : Rat)
/-- a row with a common denominator -/
def RB (k m : Nat) (r : Nat → Rat) : Prop := ∃ d : Nat, 0 < d ∧ d ≤ 10 ^ k ∧ ∀ j, j < m → ∃ u : Int, u.natAbs ≤ 10 ^ k ∧ r j * (d : Rat) = (u : Rat)
theorem pow_mono {a b : Nat} (h : a ≤ b) : 10 ^ a ≤ 10 ^ b := Nat.pow_le_pow_right (by decide) h
theorem NB.mono {a b c d : Nat} {q : Rat} (h : NB a b q) (h1 : a ≤ c) (h2 : b ≤ d) : NB c d q := by
 obtain ⟨u, e, h3, h4, h5, h6⟩ := h
 exact ⟨u, e, h3, Nat.le_trans h4 (pow_mono h2), Nat.le_trans h5 (pow_mono h1), h6⟩
theorem RB.mono {a b m : Nat} {r : Nat → Rat} (h : RB a m r) (h1 : a ≤ b) : RB b m r := by
 obtain ⟨d, h3, h4, h5⟩ := h
 exact ⟨d, h3, Nat.le_trans h4 (pow_mono h1), fun j hj => by obtain ⟨u, h6, h7⟩ := h5 j hj; exact ⟨u, Nat.le_trans h6 (pow_mono h1), h7⟩⟩
theorem RB.nb {k m j : Nat} {r : Nat → Rat} (h : RB k m r) (hj : j < m) : NB k k (r j) := by
 obtain ⟨d, h1, h2, h3⟩ := h
 obtain ⟨u, h4, h5⟩ := h3 j hj
 exact ⟨u, d, h1, h2, h4, h5⟩
theorem NB.mul {a b c d : Nat} {p q : Rat} (h : NB a b p) (h' : NB c d q) : NB (a + c) (b + d) (p * q) := by
 obtain ⟨u, e, h1, h2, h3, h4⟩ := h
 obtain ⟨v, f, g1, g2, g3, g4⟩ := h'
 refine ⟨u * v, e * f, Nat.mul_pos h1 g1, by rw [Nat.pow_add]; exact Nat.mul_le_mul h2 g2, by rw [Int.natAbs_mul, Nat.pow_add]; exact Nat.mul_le_mul h3 g3, ?_⟩
 rw [Rat.natCast_mul, Rat.intCast_mul]
 grind
theorem NB.neg {a b : Nat} {p : Rat} (h : NB a b p) : NB a b (-p) := by
 obtain ⟨u, e, h1, h2, h3, h4⟩ := h
 refine ⟨-u, e, h1, h2, by rw [Int.natAbs_neg]; exact h3, ?_⟩
 rw [Rat.intCast_neg]; grind
theorem NB.add {a b c d : Nat} {p q : Rat} (h : NB a b p) (h' : NB c d q) : NB (max (a + d) (c + b) + 1) (b + d) (p + q) := by
 obtain ⟨u, e, h1, h2, h3, h4⟩ := h
 obtain ⟨v, f, g1, g2, g3, g4⟩ := h'
 refine ⟨u * f + v * e, e * f, Nat.mul_pos h1 g1, by rw [Nat.pow_add]; exact Nat.mul_le_mul h2 g2, ?_, ?_⟩
 ·have e1 : (u * (f : Int)).natAbs ≤ 10 ^ (max (a + d) (c + b)) := by
   rw [Int.natAbs_mul, Int.natAbs_natCast]
   refine Nat.le_trans (Nat.mul_le_mul h3 g2) ?_
   rw [← Nat.pow_add]; exact pow_mono (Nat.le_max_left _ _)
  have e2 : (v * (e : Int)).natAbs ≤ 10 ^ (max (a + d) (c + b)) := by
   rw [Int.natAbs_mul, Int.natAbs_natCast]
   refine Nat.le_trans (Nat.mul_le_mul g3 h2) ?_
   rw [← Nat.pow_add]; exact pow_mono (Nat.le_max_right _ _)
  have e3 := Int.natAbs_add_le (u * (f : Int)) (v * (e : Int))
  rw [Nat.pow_succ]
  omega
 ·rw [Rat.natCast_mul, Rat.intCast_add, Rat.intCast_mul, Rat.intCast_mul, Rat.intCast_natCast, Rat.intCast_natCast]
  grind
theorem NB.zero : NB 0 0 0 := ⟨0, 1, by decide, by decide, by decide, by decide +kernel⟩
theorem NB.oneM : NB 0 0 1 := ⟨1, 1, by decide, by decide, by decide, by decide +kernel⟩
theorem NB.sum {a b : Nat} {f : Nat → Rat} : ∀ {n : Nat}, (∀ t, t < n → NB a b (f t)) → NB (a + n * (b + 1)) (n * b) (sm n f)
 | 0, _ => NB.zero.mono (Nat.zero_le _) (Nat.zero_le _)
 | n + 1, h => by
   have e := (NB.sum (n := n) (fun t ht => h t (by omega))).add (h n (by omega))
   refine e.mono ?_ (by rw [Nat.succ_mul]; omega)
   rw [Nat.succ_mul, Nat.mul_add]
   omega
theorem RB.div {k m c : Nat} {r : Nat → Rat} (h : RB k m r) (hc : c < m) (h0 : r c ≠ 0) : RB k m (fun j => r j / r c) := by
 obtain ⟨d, h1, h2, h3⟩ := h
 obtain ⟨uc, g1, g2⟩ := h3 c hc
 have hd : (d : Rat) ≠ 0 := fun e => by
  have : d = 0 := by exact_mod_cast e
  omega
 have huc : uc ≠ 0 := fun e => by
  rw [e] at g2
  rcases Rat.mul_eq_zero.1 (g2.trans (by rfl : ((0 : Int) : Rat) = 0)) with h | h
  ·exact h0 h
  ·exact hd h
 have hi := Rat.mul_inv_cancel _ h0
 refine ⟨uc.natAbs, by omega, g1, fun j hj => ?_⟩
 obtain ⟨u, e1, e2⟩ := h3 j hj
 rcases Int.lt_or_le uc 0 with hn | hp
 ·refine ⟨-u, by rw [Int.natAbs_neg]; exact e1, ?_⟩
  have e3 : ((uc.natAbs : Nat) : Rat) = -(uc : Rat) := by
   rw [← Rat.intCast_neg, ← Rat.intCast_natCast]; congr 1; omega
  show r j / r c * _ = _
  rw [e3, Rat.div_def, Rat.intCast_neg, ← e2, ← g2]
  generalize (r c)⁻¹ = z at *
  grind
 ·refine ⟨u, e1, ?_⟩
  have e3 : ((uc.natAbs : Nat) : Rat) = (uc : Rat) := by
   rw [← Rat.intCast_natCast]; congr 1; omega
  show r j / r c * _ = _
  rw [e3, Rat.div_def, ← e2, ← g2]
  generalize (r c)⁻¹ = z at *
  grind
theorem RB.sub {k m c : Nat} {r p : Nat → Rat} (h : RB k m r) (h' : RB k m p) (hc : c < m) : RB (2 * k + 1) m (fun j => r j - r c * p j) := by
 obtain ⟨d, h1, h2, h3⟩ := h
 obtain ⟨e, g1, g2, g3⟩ := h'
 obtain ⟨uc, a1, a2⟩ := h3 c hc
 have hb : d * e ≤ 10 ^ (2 * k + 1) := by
  refine Nat.le_trans (Nat.mul_le_mul h2 g2) ?_
  rw [← Nat.pow_add]; exact pow_mono (by omega)
 refine ⟨d * e, Nat.mul_pos h1 g1, hb, fun j hj => ?_⟩
 obtain ⟨u, b1, b2⟩ := h3 j hj
 obtain ⟨v, c1, c2⟩ := g3 j hj
 refine ⟨u * e - uc * v, ?_, ?_⟩
 ·have e1 : (u * (e : Int)).natAbs ≤ 10 ^ (2 * k) := by
   rw [Int.natAbs_mul, Int.natAbs_natCast]
   refine Nat.le_trans (Nat.mul_le_mul b1 g2) ?_
   rw [← Nat.pow_add]; exact pow_mono (by omega)
  have e2 : (uc * v).natAbs ≤ 10 ^ (2 * k) := by
   rw [Int.natAbs_mul]
   refine Nat.le_trans (Nat.mul_le_mul a1 c1) ?_
   rw [← Nat.pow_add]; exact pow_mono (by omega)
  have e3 := Int.natAbs_sub_le (u * (e : Int)) (uc * v)
  rw [Nat.pow_succ]
  omega
 ·rw [Rat.natCast_mul, Rat.intCast_sub, Rat.intCast_mul, Rat.intCast_mul, Rat.intCast_natCast]
  grind
def RBs (k n m : Nat) (F : Mtx) : Prop := ∀ i, i < n → RB k m (F i)
theorem rbs_stp {k n m c : Nat} {s : RSt} (h : RBs k n m s.F) (hl : s.lead.length ≤ n) (hc : c < m) : RBs (2 * k + 1) n m (stpM n s c).F := by
 by_cases hf : lookM s.F c (n - s.lead.length) s.lead.length < n
 ·rw [stp_found hf]
  obtain ⟨hp, hk⟩ := (look_spec hl).1 hf
  generalize lookM s.F c (n - s.lead.length) s.lead.length = p at *
  intro i hi
  have e : (clrM (sclM (swpM s.F s.lead.length p) s.lead.length c) s.lead.length c) i = fun j => if i = s.lead.length then s.F p j / s.F p c else swpM s.F s.lead.length p i j - swpM s.F s.lead.length p i c * (s.F p j / s.F p c) := by
   funext j; exact clr_at ..
  show RB _ _ ((clrM (sclM (swpM s.F s.lead.length p) s.lead.length c) s.lead.length c) i)
  rw [e]
  have hd := (h p hf).div hc hp
  by_cases e2 : i = s.lead.length
  ·simp only [if_pos e2]; exact hd.mono (by omega)
  ·simp only [if_neg e2]
   have hs : RB k m (swpM s.F s.lead.length p i) := by
    unfold swpM
    split
    ·exact h p hf
    ·split
     ·exact h _ (by omega)
     ·exact h i hi
   exact hs.sub hd hc
 ·rw [stp_not hf]
  exact fun i hi => (h i hi).mono (by omega)
theorem rbs_red {k n m : Nat} {F : Mtx} (h : RBs k n m F) : ∀ {w : Nat}, w ≤ m → RBs ((k + 1) * 2 ^ w - 1) n m (redM n F w).F
 | 0, _ => fun i hi => (h i hi).mono (by omega)
 | w + 1, hw => by
   have ih := rbs_red h (w := w) (by omega)
   have := rbs_stp ih (good_red n F w).len (by omega : w < m)
   have hp : 0 < (k + 1) * 2 ^ w := Nat.mul_pos (by omega) (Nat.pow_pos (by decide))
   have e : 2 * ((k + 1) * 2 ^ w - 1) + 1 = (k + 1) * 2 ^ (w + 1) - 1 := by
    rw [Nat.pow_succ, ← Nat.mul_assoc]; omega
   rw [e] at this
   exact this
theorem nb_fac {k n m : Nat} {F : Mtx} (h : RBs k n m F) : ∀ {w : Nat}, w ≤ m → NB ((k + 1) * 2 ^ w) ((k + 1) * 2 ^ w) (redM n F w).fac
 | 0, _ => NB.oneM.mono (Nat.zero_le _) (Nat.zero_le _)
 | w + 1, hw => by
   have ih := nb_fac h (w := w) (by omega)
   have hb := rbs_red h (w := w) (by omega)
   have hg := (good_red n F w).len
   show NB _ _ (stpM n (redM n F w) w).fac
   generalize redM n F w = s at *
   have e : (k + 1) * 2 ^ (w + 1) = (k + 1) * 2 ^ w + (k + 1) * 2 ^ w := by rw [Nat.pow_succ, ← Nat.mul_assoc]; omega
   rw [e]
   by_cases hf : lookM s.F w (n - s.lead.length) s.lead.length < n
   ·rw [stp_found hf]
    have hx := (hb _ hf).nb (by omega : w < m)
    have hx := hx.mono (Nat.sub_le _ 1) (Nat.sub_le _ 1)
    simp only
    split
    ·exact ih.mul hx
    ·exact ih.neg.mul hx
   ·rw [stp_not hf]; exact ih.mono (by omega) (by omega)

/-- the solution: what stands beside at the leading columns, 0 at the others -/
def solV (s : RSt) (m : Nat) : Nat → Rat := fun j => match posn s.lead j with
 | some t => s.F t m
 | none => 0
end Go.Mx
