/-
 OWN MATRICES: a row of rows, all of the call's own. Own work.
-/
import Derived.Test.YtkfmblmamoofjaaGreatDoorPj
import Derived.Test.YtkfmblmamoofjaaGreatDoorEe
import Derived.Laws.OwnMore
import Derived.Below
import Derived.Test.YtkfmblmamoofjaaGreatDoorEd
set_option linter.unusedVariables false
set_option linter.unusedSimpArgs false
namespace Go.Pi
open Go Go.RowKit

/-- a function of an index as a list -/
def lst {α : Type} (n : Nat) (f : Nat → α) : List α := (List.range n).map f
theorem lst_len {α : Type} (n : Nat) (f : Nat → α) : (lst n f).length = n := by simp [lst]
theorem lst_at {α : Type} {n j : Nat} (f : Nat → α) (h : j < n) : (lst n f)[j]? = some (f j) := by simp [lst, h]
theorem lst_set {α : Type} {n j : Nat} (f : Nat → α) (u : α) : (lst n f).set j u = lst n (fun i => if i = j then u else f i) := by
 apply List.ext_getElem?
 intro i
 rw [List.getElem?_set]
 by_cases hi : i < n
 ·rw [lst_at _ hi, lst_at _ hi, lst_len]
  by_cases e : j = i
  ·subst e; rw [if_pos rfl, if_pos hi, if_pos rfl]
  ·rw [if_neg e, if_neg (Ne.symm e)]
 ·have h1 : ∀ g : Nat → α, (lst n g)[i]? = none := fun g => List.getElem?_eq_none (by rw [lst_len]; omega)
  rw [h1, h1, lst_len]
  split
  ·rename_i e; subst e; rw [if_neg hi]
  ·rfl
theorem lst_congr {α : Type} {n : Nat} {f g : Nat → α} (h : ∀ i, i < n → f i = g i) : lst n f = lst n g := by
 unfold lst
 exact List.map_congr_left fun i hi => h i (List.mem_range.1 hi)
theorem lst_succ {α : Type} (n : Nat) (f : Nat → α) : lst (n + 1) f = lst n f ++ [f n] := by
 unfold lst; rw [List.range_succ, List.map_append]; rfl

structure OwnM (W : World) (base eR eS g cap n m : Nat) (B C : Nat → Nat) (X : Nat → Nat → Value) : Prop where
 top : W.ownsRow base eR 1 (.slice (some ⟨g, 0, none⟩) n cap) n (lst n fun i => .slice (some ⟨B i, 0, none⟩) m (C i))
 row : ∀ i, i < n → W.ownsRow base eS 1 (.slice (some ⟨B i, 0, none⟩) m (C i)) m (lst m (X i))
 ne : ∀ i, i < n → B i ≠ g
 inj : ∀ i j, i < n → j < n → B i = B j → i = j

namespace OwnM
variable {W : World} {base eR eS g cap n m : Nat} {B C : Nat → Nat} {X Y : Nat → Nat → Value}
theorem topLt (h : OwnM W base eR eS g cap n m B C X) : base ≤ g ∧ g < W.heap.size := h.top.lt g rfl
theorem rowLt (h : OwnM W base eR eS g cap n m B C X) {i : Nat} (hi : i < n) : base ≤ B i ∧ B i < W.heap.size := (h.row i hi).lt (B i) rfl
theorem drew (h : OwnM W base eR eS g cap n m B C X) : OwnM W.drew base eR eS g cap n m B C X := ⟨h.top.drew, fun i hi => (h.row i hi).drew, h.ne, h.inj⟩
theorem kept {W' : World} (h : OwnM W base eR eS g cap n m B C X) (hg : W.grownBy W' none) : OwnM W' base eR eS g cap n m B C X :=
 ⟨h.top.kept hg (.inr (by simp [Value.ownBlock])), fun i hi => (h.row i hi).kept hg (.inr (by simp [Value.ownBlock])), h.ne, h.inj⟩
theorem below {W' : World} (h : OwnM W base eR eS g cap n m B C X) (hb : Below W.heap.size W W') : OwnM W' base eR eS g cap n m B C X := h.kept (gr_below hb)
theorem congr (h : OwnM W base eR eS g cap n m B C X) (e : ∀ i, i < n → ∀ j, j < m → X i j = Y i j) : OwnM W base eR eS g cap n m B C Y :=
 ⟨h.top, fun i hi => by rw [← lst_congr (e i hi)]; exact h.row i hi, h.ne, h.inj⟩
/-- a store into a row -/
theorem setRow (h : OwnM W base eR eS g cap n m B C X) {i : Nat} (hi : i < n) (j : Nat) (v : Value) :
  OwnM (W.setCell ⟨B i, j, none⟩ v) base eR eS g cap n m B C (fun a b => if a = i ∧ b = j then v else X a b) := by
 obtain ⟨h1, h2⟩ := (h.row i hi).stored j v
 refine ⟨h.top.kept h2 (.inr (by simp [Value.ownBlock]; exact fun e => h.ne i hi e.symm)), fun a ha => ?_, h.ne, h.inj⟩
 by_cases e : a = i
 ·subst e
  rw [lst_set] at h1
  rw [show lst m (fun b => if a = a ∧ b = j then v else X a b) = lst m (fun b => if b = j then v else X a b) from lst_congr fun b _ => by simp]
  exact h1
 ·rw [show lst m (fun b => if a = i ∧ b = j then v else X a b) = lst m (X a) from lst_congr fun b _ => by simp [e]]
  exact (h.row a ha).kept h2 (.inr (by simp [Value.ownBlock]; exact fun e2 => e (h.inj a i ha hi e2)))
/-- two rows exchanged -/
theorem swap (h : OwnM W base eR eS g cap n m B C X) {a b : Nat} (ha : a < n) (hb : b < n) :
  OwnM ((W.setCell ⟨g, a, none⟩ (.slice (some ⟨B b, 0, none⟩) m (C b))).setCell ⟨g, b, none⟩ (.slice (some ⟨B a, 0, none⟩) m (C a))) base eR eS g cap n m
   (fun i => if i = a then B b else if i = b then B a else B i) (fun i => if i = a then C b else if i = b then C a else C i) (fun i => if i = a then X b else if i = b then X a else X i) := by
 obtain ⟨h1, h2⟩ := h.top.stored a (.slice (some ⟨B b, 0, none⟩) m (C b))
 obtain ⟨h3, h4⟩ := h1.stored b (.slice (some ⟨B a, 0, none⟩) m (C a))
 have hg := gr_trans h2 h4
 refine ⟨?_, ?_, ?_, ?_⟩
 ·rw [lst_set, lst_set] at h3
  rw [show lst n (fun i => Value.slice (some ⟨if i = a then B b else if i = b then B a else B i, 0, none⟩) m (if i = a then C b else if i = b then C a else C i)) = lst n (fun i => if i = b then Value.slice (some ⟨B a, 0, none⟩) m (C a) else if i = a then Value.slice (some ⟨B b, 0, none⟩) m (C b) else Value.slice (some ⟨B i, 0, none⟩) m (C i)) from lst_congr fun i _ => by
   by_cases e1 : i = a
   ·by_cases e2 : i = b
    ·subst e1; subst e2; simp
    ·simp [e1]
     intro e; subst e; exact absurd e1 e2
   ·by_cases e2 : i = b
    ·simp [e2]
     exact ⟨fun e => absurd (e2.trans e) e1, fun e => absurd (e2.trans e) e1⟩
    ·simp [e1, e2]]
  exact h3
 ·intro i hi
  have hr : ∀ k, k < n → ((W.setCell ⟨g, a, none⟩ (.slice (some ⟨B b, 0, none⟩) m (C b))).setCell ⟨g, b, none⟩ (.slice (some ⟨B a, 0, none⟩) m (C a))).ownsRow base eS 1 (.slice (some ⟨B k, 0, none⟩) m (C k)) m (lst m (X k)) := fun k hk => (h.row k hk).kept hg (.inr (by simp [Value.ownBlock]; exact h.ne k hk))
  by_cases e1 : i = a
  ·simp only [if_pos e1]; exact hr b hb
  ·by_cases e2 : i = b
   ·simp only [if_neg e1, if_pos e2]; exact hr a ha
   ·simp only [if_neg e1, if_neg e2]; exact hr i hi
 ·intro i hi
  by_cases e1 : i = a
  ·simp only [if_pos e1]; exact h.ne b hb
  ·by_cases e2 : i = b
   ·simp only [if_neg e1, if_pos e2]; exact h.ne a ha
   ·simp only [if_neg e1, if_neg e2]; exact h.ne i hi
 ·intro i j hi hj hij
  have key : ∀ x y, x < n → y < n → B x = B y → x = y := h.inj
  by_cases e1 : i = a
  ·subst e1
   by_cases e3 : j = i
   ·exact e3.symm
   ·by_cases e4 : j = b
    ·subst e4
     simp only [if_pos, if_neg e3] at hij
     exact (key j i hb ha hij).symm
    ·simp only [if_pos, if_neg e3, if_neg e4] at hij
     exact absurd (key b j hb hj hij).symm e4
  ·by_cases e2 : i = b
   ·subst e2
    by_cases e3 : j = a
    ·subst e3
     simp only [if_neg e1, if_pos] at hij
     exact (key j i ha hb hij).symm
    ·by_cases e4 : j = i
     ·exact e4.symm
     ·simp only [if_neg e1, if_pos, if_neg e3, if_neg e4] at hij
      exact absurd (key a j ha hj hij).symm e3
   ·by_cases e3 : j = a
    ·subst e3
     simp only [if_neg e1, if_neg e2, if_pos] at hij
     exact absurd (key i b hi hb hij) e2
    ·by_cases e4 : j = b
     ·subst e4
      simp only [if_neg e1, if_neg e2, if_neg e3, if_pos] at hij
      exact absurd (key i a hi ha hij) e1
     ·simp only [if_neg e1, if_neg e2, if_neg e3, if_neg e4] at hij
      exact key i j hi hj hij
end OwnM
/-- a row of strings as data -/
theorem rep_strs {W : World} {S : Nat → Nat → Prop} {base e : Nat} {v : Value} {n : Nat} {f : Nat → List UInt8} (h : W.ownsRow base e 1 v n (lst n fun i => .string ⟨(f i).toArray⟩)) (hl : ∀ i, i < n → (f i).length ≤ maxLen) (hS : ∀ b j, base ≤ b → b < W.heap.size → S b j) :
  Rep S W (.sl n (lst n fun i => .str (f i))) v := by
 rcases h.2 with ⟨rfl, h0⟩ | ⟨b, cap, cur, rfl, hbg, hg, hn, hc, _, _⟩
 ·subst h0; exact .sl0 none 0 (Nat.zero_le _)
 ·refine .sl n (lst n fun i => .str (f i)) b 0 cap (lst n fun i => .string ⟨(f i).toArray⟩) (by rw [lst_len, lst_len]) (fun d hd => ?_) hn hc (fun i u hu => ⟨hS b _ hbg (Array.getElem?_eq_some_iff.1 hg).1, ?_⟩) (fun i d u hd hu => ?_)
  ·unfold lst at hd
   obtain ⟨x, _, rfl⟩ := List.mem_map.1 hd
   rfl
  ·have hlt := (List.getElem?_eq_some_iff.1 hu).1
   rw [lst_len] at hlt
   rw [Nat.zero_add, h.cellAt i (by omega)]; exact hu
  ·have hlt := (List.getElem?_eq_some_iff.1 hu).1
   rw [lst_len] at hlt
   rw [lst_at _ hlt] at hd hu
   cases hd; cases hu
   exact .str _ (hl i hlt)
/-- an own matrix of strings as data -/
theorem OwnM.rep {W : World} {S : Nat → Nat → Prop} {base eR eS g cap n m : Nat} {B C : Nat → Nat} {f : Nat → Nat → List UInt8} (h : OwnM W base eR eS g cap n m B C (fun i j => .string ⟨(f i j).toArray⟩)) (hl : ∀ i, i < n → ∀ j, j < m → (f i j).length ≤ maxLen) (hS : ∀ b j, base ≤ b → b < W.heap.size → S b j) :
  Rep S W (.sl n (lst n fun i => .sl m (lst m fun j => .str (f i j)))) (.slice (some ⟨g, 0, none⟩) n cap) := by
 rcases h.top.2 with ⟨h1, _⟩ | ⟨b, cap', cur, hv, hbg, hg, hn, hc, _, _⟩
 ·simp at h1
 ·simp only [Value.slice.injEq, Option.some.injEq, Addr.mk.injEq, and_true, true_and] at hv
  obtain ⟨rfl, rfl⟩ := hv
  refine .sl n _ g 0 cap (lst n fun i => .slice (some ⟨B i, 0, none⟩) m (C i)) (by rw [lst_len, lst_len]) (fun d hd => ?_) hn hc (fun i u hu => ⟨hS g _ hbg (Array.getElem?_eq_some_iff.1 hg).1, ?_⟩) (fun i d u hd hu => ?_)
  ·unfold lst at hd
   obtain ⟨x, _, rfl⟩ := List.mem_map.1 hd
   rfl
  ·have hlt := (List.getElem?_eq_some_iff.1 hu).1
   rw [lst_len] at hlt
   rw [Nat.zero_add, h.top.cellAt i (by omega)]; exact hu
  ·have hlt := (List.getElem?_eq_some_iff.1 hu).1
   rw [lst_len] at hlt
   rw [lst_at _ hlt] at hd hu
   cases hd; cases hu
   exact rep_strs (h.row i hlt) (hl i hlt) hS
end Go.Pi
namespace Go.Pi
open Go Go.RowKit
/-- rows of different kinds lie in different blocks -/
theorem own_ne {w : World} {b1 b2 e1 e2 s1 s2 g1 g2 n1 n2 c1 c2 : Nat} {xs ys : List Value} (h1 : w.ownsRow b1 e1 s1 (.slice (some ⟨g1, 0, none⟩) n1 c1) n1 xs) (h2 : w.ownsRow b2 e2 s2 (.slice (some ⟨g2, 0, none⟩) n2 c2) n2 ys) (hne : e1 ≠ e2) : g1 ≠ g2 := by
 rintro rfl
 rcases h1.2 with ⟨h, _⟩ | ⟨g, cap, cur, h, _, hg, _⟩
 ·simp at h
 ·rcases h2.2 with ⟨h', _⟩ | ⟨g', cap', cur', h', _, hg', _⟩
  ·simp at h'
  ·simp only [Value.slice.injEq, Option.some.injEq, Addr.mk.injEq, and_true, true_and] at h h'
   obtain ⟨rfl, rfl⟩ := h
   obtain ⟨rfl, rfl⟩ := h'
   rw [hg] at hg'
   cases hg'
   exact hne rfl
/-- the first k rows of a matrix under way: the outer row may be nil -/
def OwnQ (W : World) (base eR eS : Nat) (v : Value) (k m : Nat) (B C : Nat → Nat) (X : Nat → Nat → Value) : Prop :=
 W.ownsRow base eR 1 v k (lst k fun i => .slice (some ⟨B i, 0, none⟩) m (C i)) ∧ (∀ i, i < k → W.ownsRow base eS 1 (.slice (some ⟨B i, 0, none⟩) m (C i)) m (lst m (X i))) ∧ (∀ i j, i < k → j < k → B i = B j → i = j)
theorem OwnQ.whole {W : World} {base eR eS n m : Nat} {v : Value} {B C : Nat → Nat} {X : Nat → Nat → Value} (h : OwnQ W base eR eS v n m B C X) (hn : 0 < n) (hne : eR ≠ eS) : ∃ g cap, v = .slice (some ⟨g, 0, none⟩) n cap ∧ OwnM W base eR eS g cap n m B C X := by
 obtain ⟨h1, h2, h3⟩ := h
 rcases h1.2 with ⟨_, h0⟩ | ⟨g, cap, cur, rfl, _⟩
 ·omega
 ·exact ⟨g, cap, rfl, h1, h2, fun i hi => (own_ne h1 (h2 i hi) hne).symm, h3⟩
end Go.Pi
namespace Go.Pi
open Go Go.RowKit
/-- one row more -/
theorem OwnQ.push {W W1 W2 : World} {base eR eS k m b1 c1 : Nat} {v v5 : Value} {B C : Nat → Nat} {X : Nat → Nat → Value} {r : Nat → Value} {ob : Obj}
  (h : OwnQ W base eR eS v k m B C X) (hne : eR ≠ eS) (hbase : base ≤ W.heap.size) (hb1 : Below W.heap.size W W1) (o1 : W1.ownsRow W.heap.size eS 1 (.slice (some ⟨b1, 0, none⟩) m c1) m (lst m r))
  (o5 : W2.ownsRow base eR 1 v5 (k + 1) ((lst k fun i => .slice (some ⟨B i, 0, none⟩) m (C i)) ++ [.slice (some ⟨b1, 0, none⟩) m c1])) (hg : (W1.alloc ob).grownBy W2 v.ownBlock) :
  OwnQ W2 base eR eS v5 (k + 1) m (fun i => if i = k then b1 else B i) (fun i => if i = k then c1 else C i) (fun i => if i = k then r else X i) := by
 obtain ⟨h1, h2, h3⟩ := h
 have hlt := o1.lt b1 rfl
 have hB : ∀ i, i < k → B i < W.heap.size := fun i hi => ((h2 i hi).lt (B i) rfl).2
 have hbn : ∀ i, i < k → v.ownBlock ≠ some (B i) := by
  intro i hi
  rcases h1.2 with ⟨rfl, _⟩ | ⟨g, cap, cur, rfl, _⟩
  ·simp [Value.ownBlock]
  ·simp only [Value.ownBlock, ne_eq, Option.some.injEq]
   exact own_ne h1 (h2 i hi) hne
 have hb1n : v.ownBlock ≠ some b1 := fun e => by have := (h1.lt b1 e).2; omega
 refine ⟨?_, ?_, ?_⟩
 ·rw [lst_succ]
  simp only [if_pos]
  rw [lst_congr (g := fun i => Value.slice (some ⟨B i, 0, none⟩) m (C i)) (fun i hi => by rw [if_neg (by omega), if_neg (by omega)])]
  exact o5
 ·intro i hi
  by_cases e : i = k
  ·simp only [if_pos e]
   exact own_base ((o1.alloc ob).kept hg (.inr (by simp only [Value.ownBlock]; exact fun e => hb1n e.symm))) hbase
  ·simp only [if_neg e]
   exact (((h2 i (by omega)).kept (gr_below (r := none) hb1) (.inr (by simp [Value.ownBlock]))).alloc ob).kept hg (.inr (by simp only [Value.ownBlock]; exact fun e => hbn i (by omega) e.symm))
 ·intro i j hi hj hij
  by_cases e1 : i = k
  ·by_cases e2 : j = k
   ·omega
   ·simp only [if_pos e1, if_neg e2] at hij
    have := hB j (by omega); omega
  ·by_cases e2 : j = k
   ·simp only [if_neg e1, if_pos e2] at hij
    have := hB i (by omega); omega
   ·simp only [if_neg e1, if_neg e2] at hij
    exact h3 i j (by omega) (by omega) hij
end Go.Pi
namespace Go.Pi
open Go Go.RowKit
theorem World.grownBy.trans_own {W : World} {base e sz g n cap : Nat} {xs : List Value} (h : W.ownsRow base e sz (.slice (some ⟨g, 0, none⟩) n cap) n xs) (a b : Nat) (u v : Value) : W.grownBy ((W.setCell ⟨g, a, none⟩ u).setCell ⟨g, b, none⟩ v) (some g) := by
 obtain ⟨h1, h2⟩ := h.stored a u
 exact gr_trans h2 (h1.stored b v).2
end Go.Pi
namespace Go.Pi
open Go Go.RowKit
theorem own_ne' {w : World} {b1 b2 e1 e2 s1 s2 g2 n1 n2 c2 : Nat} {v : Value} {xs ys : List Value} (h1 : w.ownsRow b1 e1 s1 v n1 xs) (h2 : w.ownsRow b2 e2 s2 (.slice (some ⟨g2, 0, none⟩) n2 c2) n2 ys) (hne : e1 ≠ e2) : v.ownBlock ≠ some g2 := by
 rcases h1.2 with ⟨rfl, _⟩ | ⟨g, cap, cur, rfl, _⟩
 ·simp [Value.ownBlock]
 ·simp only [Value.ownBlock, ne_eq, Option.some.injEq]
  exact own_ne h1 h2 hne
end Go.Pi
namespace Go.Pi
open Go Go.RowKit
/-- a matrix, a list and a box under way, all of the call's own -/
structure OwnK (W0 W : World) (eR eS eI g cap n m : Nat) (B C : Nat → Nat) (X : Nat → Nat → Value) (v : Value) (k : Nat) (xs : List Value) (bx : Nat) (c : Int) : Prop where
 mat : OwnM W W0.heap.size eR eS g cap n m B C X
 ld : W.ownsRow W0.heap.size eI 1 v k xs
 bel : Below W0.heap.size W0 W
 box : W.heap[bx]? = some (.cells #[.int .i64 c] eI (0, 0))
namespace OwnK
variable {W0 W : World} {eR eS eI g cap n m : Nat} {B C : Nat → Nat} {X Y : Nat → Nat → Value} {v : Value} {k : Nat} {xs : List Value} {bx : Nat} {c : Int}
theorem boxLt (h : OwnK W0 W eR eS eI g cap n m B C X v k xs bx c) : bx < W.heap.size := (Array.getElem?_eq_some_iff.1 h.box).1
theorem neBox {w : World} {b1 e1 e2 s1 n1 c1 g1 : Nat} {ys : List Value} {arr : Array Value} (h : w.ownsRow b1 e1 s1 (.slice (some ⟨g1, 0, none⟩) n1 c1) n1 ys) (hb : w.heap[bx]? = some (.cells arr e2 (0, 0))) (hne : e1 ≠ e2) : bx ≠ g1 := by
 rintro rfl
 rcases h.2 with ⟨h, _⟩ | ⟨g, cap, cur, h, _, hg, _⟩
 ·simp at h
 ·simp only [Value.slice.injEq, Option.some.injEq, Addr.mk.injEq, and_true, true_and] at h
  obtain ⟨rfl, rfl⟩ := h
  rw [hg] at hb
  cases hb
  exact hne rfl
theorem drew (h : OwnK W0 W eR eS eI g cap n m B C X v k xs bx c) : OwnK W0 W.drew eR eS eI g cap n m B C X v k xs bx c := ⟨h.mat.drew, h.ld.drew, h.bel.drew, h.box⟩
theorem below {W' : World} (h : OwnK W0 W eR eS eI g cap n m B C X v k xs bx c) (hb : Below W.heap.size W W') : OwnK W0 W' eR eS eI g cap n m B C X v k xs bx c :=
 ⟨h.mat.below hb, h.ld.kept (gr_below (r := none) hb) (Classical.em _), h.bel.trans (hb.mono h.bel.size), (hb.block bx h.boxLt).trans h.box⟩
theorem congr (h : OwnK W0 W eR eS eI g cap n m B C X v k xs bx c) (e : ∀ i, i < n → ∀ j, j < m → X i j = Y i j) : OwnK W0 W eR eS eI g cap n m B C Y v k xs bx c :=
 ⟨h.mat.congr e, h.ld, h.bel, h.box⟩
theorem setRow (h : OwnK W0 W eR eS eI g cap n m B C X v k xs bx c) (h1 : eS ≠ eI) {i : Nat} (hi : i < n) (j : Nat) (u : Value) : OwnK W0 (W.setCell ⟨B i, j, none⟩ u) eR eS eI g cap n m B C (fun a b => if a = i ∧ b = j then u else X a b) v k xs bx c := by
 have hg := ((h.mat.row i hi).stored j u).2
 refine ⟨h.mat.setRow hi j u, h.ld.kept hg (.inr (own_ne' h.ld (h.mat.row i hi) h1.symm)), h.bel.setCell (h.mat.rowLt hi).1 u, ?_⟩
 rw [hg.block bx h.boxLt (by simp only [ne_eq, Option.some.injEq]; exact neBox (h.mat.row i hi) h.box h1)]
 exact h.box
theorem swap (h : OwnK W0 W eR eS eI g cap n m B C X v k xs bx c) (h1 : eR ≠ eI) {a b : Nat} (ha : a < n) (hb : b < n) :
  OwnK W0 ((W.setCell ⟨g, a, none⟩ (.slice (some ⟨B b, 0, none⟩) m (C b))).setCell ⟨g, b, none⟩ (.slice (some ⟨B a, 0, none⟩) m (C a))) eR eS eI g cap n m
   (fun i => if i = a then B b else if i = b then B a else B i) (fun i => if i = a then C b else if i = b then C a else C i) (fun i => if i = a then X b else if i = b then X a else X i) v k xs bx c := by
 have hg := World.grownBy.trans_own h.mat.top a b (.slice (some ⟨B b, 0, none⟩) m (C b)) (.slice (some ⟨B a, 0, none⟩) m (C a))
 refine ⟨h.mat.swap ha hb, h.ld.kept hg (.inr (own_ne' h.ld h.mat.top h1.symm)), h.bel.grown hg h.bel.size (fun k hk => by cases hk; exact h.mat.topLt.1), ?_⟩
 rw [hg.block bx h.boxLt (by simp only [ne_eq, Option.some.injEq]; exact neBox h.mat.top h.box h1)]
 exact h.box
end OwnK
end Go.Pi

/-
 WORLDS that differ in a set of blocks; boxes that hold own rows. Own work.
-/
namespace Go.Pi
open Go Go.RowKit

/-- the second world is the first one, but for the blocks of X and new ones -/
structure GrX (X : Nat → Prop) (w w' : World) : Prop where
 os : w'.os = w.os
 tape : w'.tape = w.tape
 output : w'.output = w.output
 size : w.heap.size ≤ w'.heap.size
 block : ∀ k, k < w.heap.size → ¬X k → w'.heap[k]? = w.heap[k]?
namespace GrX
variable {X Y : Nat → Prop} {w w1 w2 w' : World}
theorem refl (X : Nat → Prop) (w : World) : GrX X w w := ⟨rfl, rfl, rfl, Nat.le_refl _, fun _ _ _ => rfl⟩
theorem trans (h : GrX X w w1) (k : GrX Y w1 w2) (hY : ∀ b, Y b → X b ∨ w.heap.size ≤ b) : GrX X w w2 :=
 ⟨k.os.trans h.os, k.tape.trans h.tape, k.output.trans h.output, Nat.le_trans h.size k.size, fun b hb hx => (k.block b (Nat.lt_of_lt_of_le hb h.size) fun hy => (hY b hy).elim hx (fun hh => by omega)).trans (h.block b hb hx)⟩
theorem mono (h : GrX X w w') (hX : ∀ b, X b → Y b ∨ w.heap.size ≤ b) : GrX Y w w' :=
 ⟨h.os, h.tape, h.output, h.size, fun b hb hy => h.block b hb fun hx => (hX b hx).elim hy (fun hh => by omega)⟩
theorem ofGrown {r : Option Nat} (h : w.grownBy w' r) : GrX (fun b => some b = r) w w' := ⟨h.os, h.tape, h.output, h.size, h.block⟩
theorem ofBelow (h : Below w.heap.size w w') : GrX X w w' := ⟨h.os, h.tape, h.output, h.size, fun b hb _ => h.block b hb⟩
theorem alloc (w : World) (o : Obj) : GrX X w (w.alloc o) := (ofGrown (World.grownBy_alloc w o none)).mono (fun b hb => by cases hb)
theorem below (h : GrX X w w') {W0 : World} {B : Nat} (hb : Below B W0 w) (hX : ∀ b, X b → B ≤ b) (hB : B ≤ w.heap.size) : Below B W0 w' :=
 ⟨h.os.trans hb.os, h.tape.trans hb.tape, h.output.trans hb.output, Nat.le_trans hb.size h.size, fun b hk => (h.block b (by omega) fun hx => by have := hX b hx; omega).trans (hb.block b hk)⟩
theorem own (h : GrX X w w') {base e sz n : Nat} {v : Value} {xs : List Value} (ho : w.ownsRow base e sz v n xs) (hn : ∀ g, v.ownBlock = some g → ¬X g) : w'.ownsRow base e sz v n xs := by
 rcases ho.2 with ⟨h1, h2⟩ | ⟨g, cap, cur, h1, hbg, hg, h2, h3, h4, h5⟩
 ·exact ⟨ho.1, .inl ⟨h1, h2⟩⟩
 ·subst h1
  exact ⟨ho.1, .inr ⟨g, cap, cur, rfl, hbg, (h.block g (Array.getElem?_eq_some_iff.1 hg).1 (hn g rfl)).trans hg, h2, h3, h4, h5⟩⟩
theorem cell (h : GrX X w w') {a : Addr} (hl : a.block < w.heap.size) (hn : ¬X a.block) : w'.cell? a = w.cell? a := by
 unfold World.cell?
 rw [h.block a.block hl hn]
end GrX
/-- a box that holds a value of one cell -/
def Box1 (w : World) (b e : Nat) (v : Value) : Prop := w.heap[b]? = some (.cells #[v] e (0, 0))
namespace Box1
variable {w w' : World} {b e : Nat} {v u : Value}
theorem lt (h : Box1 w b e v) : b < w.heap.size := (Array.getElem?_eq_some_iff.1 h).1
theorem cell (h : Box1 w b e v) : w.cell? ⟨b, 0, none⟩ = some v := by rw [Lib.cell_of_heap h]; rfl
theorem frozen (h : Box1 w b e v) : w.frozen? ⟨b, 0, none⟩ = false := by
 unfold World.frozen?
 rw [show w.heap[(⟨b, 0, none⟩ : Addr).block]? = some (.cells #[v] e (0, 0)) from h]
 rfl
theorem kept {X : Nat → Prop} (h : Box1 w b e v) (g : GrX X w w') (hn : ¬X b) : Box1 w' b e v := (g.block b h.lt hn).trans h
theorem put (h : Box1 w b e v) (u : Value) : Box1 (w.setCell ⟨b, 0, none⟩ u) b e u ∧ GrX (fun k => k = b) w (w.setCell ⟨b, 0, none⟩ u) := by
 exact ⟨heap_setCell_same w b 0 #[v] e u h, ⟨rfl, rfl, rfl, by simp, fun k _ hk => heap_setCell_other w ⟨b, 0, none⟩ k u (fun e => hk (by simp [e]))⟩⟩
theorem drew (h : Box1 w b e v) : Box1 w.drew b e v := h
theorem ne_own {base e2 sz n : Nat} {v2 : Value} {xs : List Value} (h : Box1 w b e v) (ho : w.ownsRow base e2 sz v2 n xs) (hne : e2 ≠ e) : v2.ownBlock ≠ some b := by
 rcases ho.2 with ⟨rfl, _⟩ | ⟨g, cap, cur, rfl, _, hg, _⟩
 ·simp [Value.ownBlock]
 ·simp only [Value.ownBlock, ne_eq, Option.some.injEq]
  rintro rfl
  rw [h] at hg
  cases hg
  exact hne rfl
end Box1
end Go.Pi

/-
 PLANE GEOMETRY: inside or outside, by the sides to the east and by the sides above. Own work.
-/
namespace Go.Ge

/-- a side to the east of a place: the program's test -/
def eastP (a b p : Pt) : Prop :=
 if b.2 < a.2 then b.2 ≤ p.2 ∧ p.2 < a.2 ∧ 0 < ar b a p else a.2 ≤ p.2 ∧ p.2 < b.2 ∧ 0 < ar a b p
/-- a side above a place: the law's test -/
def northP (a b p : Pt) : Prop :=
 if b.1 < a.1 then b.1 ≤ p.1 ∧ p.1 < a.1 ∧ ar b a p < 0 else a.1 ≤ p.1 ∧ p.1 < b.1 ∧ ar a b p < 0
instance (a b p : Pt) : Decidable (eastP a b p) := by unfold eastP; infer_instance
instance (a b p : Pt) : Decidable (northP a b p) := by unfold northP; infer_instance
def ne1 (p v : Pt) : Prop := p.1 < v.1 ∧ p.2 < v.2
instance (p v : Pt) : Decidable (ne1 p v) := inferInstanceAs (Decidable (p.1 < v.1 ∧ p.2 < v.2))
theorem sgp (u v : Rat) : (0 < u → 0 < v → 0 < u * v) ∧ (0 ≤ u → v ≤ 0 → u * v ≤ 0) ∧ (u ≤ 0 → 0 ≤ v → u * v ≤ 0) ∧ (u ≤ 0 → v ≤ 0 → 0 ≤ u * v) := by
 refine ⟨Rat.mul_pos, fun h k => ?_, fun h k => ?_, fun h k => ?_⟩
 ·have := Rat.mul_nonneg h (show 0 ≤ -v by grind); grind
 ·have := Rat.mul_nonneg (show 0 ≤ -u by grind) k; grind
 ·have := Rat.mul_nonneg (show 0 ≤ -u by grind) (show 0 ≤ -v by grind); grind
/-- inside or outside, side by side -/
def sE (g : Nat → Pt) (n : Nat) (p : Pt) : Nat → Int
 | 0 => -1
 | k + 1 => if eastP (g k) (g ((k + 1) % n)) p then 0 - sE g n p k else sE g n p k
def sN (g : Nat → Pt) (n : Nat) (p : Pt) : Nat → Int
 | 0 => -1
 | k + 1 => if northP (g k) (g ((k + 1) % n)) p then 0 - sN g n p k else sN g n p k
end Go.Ge

/-
 PLANE GEOMETRY: the area of a ring: from any point on, and turned round. Own work.
-/
namespace Go.Ge

def cr (u v : Pt) : Rat := u.1 * v.2 - u.2 * v.1
/-- the way from x over l, closed to h -/
def wayS (h x : Pt) : List Pt → Rat
 | [] => cr x h
 | y :: l => cr x y + wayS h y l
def cyc : List Pt → Rat
 | [] => 0
 | a :: l => wayS a a l
/-- the sum of the steps of a list -/
def path : List Pt → Rat
 | [] => 0
 | [_] => 0
 | a :: b :: l => cr a b + path (b :: l)
/-- triangles from the first point -/
def fan (a : Pt) : Pt → List Pt → Rat
 | _, [] => 0
 | x, y :: l => ar a x y + fan a y l
end Go.Ge

/-
 What a function has made reads as a plain slice. Own work.
-/
namespace Go.Proofs
open Go Go.Pi Go.RowKit
theorem Con.flat {P : Program} {L : World → Prop} {f : FuncId} {ds : List D} {wr : Bool} {e m : Nat} {cs : List D} (h : Con P L f ds (.own wr e m cs)) : Con P L f ds (.sl m cs) := by
 refine ⟨⟨h.1.1, rfl⟩, fun S w vs hS hL hv => ((h.2 S w vs hS hL hv).mono ?_)⟩
 rintro e1 w' ⟨v, rfl, hb, ob, h1, h2⟩
 refine ⟨v, rfl, hb, ?_⟩
 show Rep _ w' (.sl m cs) v
 simp only [OwnR] at h2
 rcases h2 with ⟨_, rfl, rfl, rfl⟩ | ⟨b, cap, arr, rfl, rfl, h3, h4, h5, h6, h7, h8, h9, h10, h11⟩
 ·exact .sl0 none 0 (Nat.zero_le _)
 ·have h8' := h8.mono (S' := fun b j => S b j ∨ (w.heap.size ≤ b ∧ b < w'.heap.size)) (w' := w') (fun b o hh => hh.elim .inl fun hh => .inr ⟨hh.1, hh.2.1⟩) (fun _ _ _ => rfl)
  refine .sl m cs b 0 cap _ h8'.1 h9 h4 h5 ?_ h8'.2
  rw [← h7]
  exact Row.ofBlock h3 (fun j hj => .inr (h1 b rfl))
end Go.Proofs

/-
 PLANE GEOMETRY: where two chains meet, as a list. Own work.
-/
namespace Go.Ge

abbrev Cr := Nat × Nat × Pt
def Mt.isOver : Mt → Bool
 | .over => true
 | _ => false
def Mt.tch (i k : Nat) : Mt → List Cr
 | .touch p => [(i, k, p)]
 | _ => []
/-- the places of side i on the first k sides of the other chain -/
def rowC (M : Nat → Nat → Mt) (i : Nat) : Nat → List Cr
 | 0 => []
 | k + 1 => rowC M i k ++ (M i k).tch i k
/-- those of the first i sides -/
def outC (M : Nat → Nat → Mt) (nb : Nat) : Nat → List Cr
 | 0 => []
 | i + 1 => outC M nb i ++ rowC M i nb
def ovC (M : Nat → Nat → Mt) (na nb : Nat) : Bool := (List.range na).any fun i => (List.range nb).any fun k => (M i k).isOver
theorem ovC_iff {M : Nat → Nat → Mt} {na nb : Nat} : ovC M na nb = true ↔ ∃ i k, i < na ∧ k < nb ∧ (M i k).isOver = true := by
 simp only [ovC, List.any_eq_true, List.mem_range]
 constructor
 ·rintro ⟨i, h1, k, h2, h3⟩; exact ⟨i, k, h1, h2, h3⟩
 ·rintro ⟨i, k, h1, h2, h3⟩; exact ⟨i, h1, k, h2, h3⟩
theorem rowC_congr {M M' : Nat → Nat → Mt} {i : Nat} : ∀ {k : Nat}, (∀ j, j < k → M i j = M' i j) → rowC M i k = rowC M' i k
 | 0, _ => rfl
 | k + 1, h => by
   unfold rowC
   rw [rowC_congr (k := k) (fun j hj => h j (by omega)), h k (by omega)]
theorem outC_congr {M M' : Nat → Nat → Mt} {nb : Nat} : ∀ {na : Nat}, (∀ i j, i < na → j < nb → M i j = M' i j) → outC M nb na = outC M' nb na
 | 0, _ => rfl
 | na + 1, h => by
   unfold outC
   rw [outC_congr (na := na) (fun i j hi hj => h i j (by omega) hj), rowC_congr (fun j hj => h na j (by omega) hj)]
theorem ovC_congr {M M' : Nat → Nat → Mt} {na nb : Nat} (h : ∀ i j, i < na → j < nb → M i j = M' i j) : ovC M na nb = ovC M' na nb := by
 rw [Bool.eq_iff_iff, ovC_iff, ovC_iff]
 constructor
 ·rintro ⟨i, k, h1, h2, h3⟩; exact ⟨i, k, h1, h2, by rw [← h i k h1 h2]; exact h3⟩
 ·rintro ⟨i, k, h1, h2, h3⟩; exact ⟨i, k, h1, h2, by rw [h i k h1 h2]; exact h3⟩
theorem tch_len (m : Mt) (i k : Nat) : (m.tch i k).length ≤ 1 := by cases m <;> simp [Mt.tch]
theorem mem_tch {m : Mt} {i k : Nat} {x : Cr} (h : x ∈ m.tch i k) : m = .touch x.2.2 ∧ x.1 = i ∧ x.2.1 = k := by
 cases m <;> simp [Mt.tch] at h
 subst h; exact ⟨rfl, rfl, rfl⟩
theorem rowC_len (M : Nat → Nat → Mt) (i : Nat) : ∀ k, (rowC M i k).length ≤ k
 | 0 => Nat.le_refl _
 | k + 1 => by
   unfold rowC
   rw [List.length_append]
   have := rowC_len M i k
   have := tch_len (M i k) i k
   omega
theorem outC_len (M : Nat → Nat → Mt) (nb : Nat) : ∀ na, (outC M nb na).length ≤ na * nb
 | 0 => by simp [outC]
 | na + 1 => by
   unfold outC
   rw [List.length_append, Nat.add_mul]
   have := outC_len M nb na
   have := rowC_len M na nb
   omega
theorem mem_rowC {M : Nat → Nat → Mt} {i : Nat} {x : Cr} : ∀ {k : Nat}, x ∈ rowC M i k → x.2.1 < k ∧ x.1 = i ∧ M i x.2.1 = .touch x.2.2
 | 0, h => by cases h
 | k + 1, h => by
   unfold rowC at h
   rcases List.mem_append.1 h with h | h
   ·obtain ⟨h1, h2, h3⟩ := mem_rowC h
    exact ⟨by omega, h2, h3⟩
   ·obtain ⟨h1, h2, h3⟩ := mem_tch h
    exact ⟨by omega, h2, by rw [h3]; exact h1⟩
theorem mem_outC {M : Nat → Nat → Mt} {nb : Nat} {x : Cr} : ∀ {na : Nat}, x ∈ outC M nb na → x.1 < na ∧ x.2.1 < nb ∧ M x.1 x.2.1 = .touch x.2.2
 | 0, h => by cases h
 | na + 1, h => by
   unfold outC at h
   rcases List.mem_append.1 h with h | h
   ·obtain ⟨h1, h2, h3⟩ := mem_outC h
    exact ⟨by omega, h2, h3⟩
   ·obtain ⟨h1, h2, h3⟩ := mem_rowC h
    exact ⟨by omega, h1, by rw [h2]; exact h3⟩
/-- how two sides of two chains meet, by both ways -/
def mP (a b : List Pt) (i k : Nat) : Mt := meetP (gt a i) (gt a (i + 1)) (gt b k) (gt b (k + 1))
def mL (a b : List Pt) (i k : Nat) : Mt := meetL (gt a i) (gt a (i + 1)) (gt b k) (gt b (k + 1))
theorem good_parts {c : List Pt} (h : good c = true) : 2 ≤ c.length ∧ c.length ≤ 400 ∧ ¬dbl c (c.length - 1) = true ∧ ¬crs c (c.length - 1) = true := by
 unfold good chkN segs at h
 simp only [Bool.false_eq_true, if_false, decide_eq_true_eq] at h
 by_cases h1 : c.length < 2
 ·rw [if_pos h1] at h; omega
 ·rw [if_neg h1] at h
  by_cases h2 : 400 < c.length
  ·rw [if_pos h2] at h; omega
  ·rw [if_neg h2] at h
   by_cases h3 : dbl c (c.length - 1) = true
   ·rw [if_pos h3] at h; omega
   ·rw [if_neg h3] at h
    by_cases h4 : crs c (c.length - 1) = true
    ·rw [if_pos h4] at h; omega
    ·exact ⟨by omega, by omega, h3, h4⟩
theorem good_ne {c : List Pt} (h : good c = true) {j : Nat} (hj : j + 1 < c.length) : gt c j ≠ gt c (j + 1) := by
 intro e
 exact (good_parts h).2.2.1 (dbl_iff.2 ⟨j, by omega, by rw [Nat.mod_eq_of_lt hj]; exact e⟩)
theorem good_len {c : List Pt} (h : good c = true) : 2 ≤ c.length := (good_parts h).1
theorem mP_mL {a b : List Pt} (ha : good a = true) (hb : good b = true) (i k : Nat) (hi : i < a.length - 1) (hk : k < b.length - 1) : mP a b i k = mL a b i k :=
 meet_eq (good_ne ha (by omega)) (good_ne hb (by omega))
end Go.Ge

/-
 EQUAL NEIGHBOURS left out, plain: one element more. Own work.
-/
namespace Go.Sp

theorem cpt_snoc {α : Type} [DecidableEq α] (x : α) : ∀ l : List α, cpt (l ++ [x]) = if l.getLast? = some x then cpt l else cpt l ++ [x]
 | [] => by simp [cpt]
 | [y] => by
   by_cases h : y = x
   ·subst h; simp [cpt]
   ·simp [cpt, h]
 | y :: z :: l => by
   have ih := cpt_snoc x (z :: l)
   have hg : (y :: z :: l).getLast? = (z :: l).getLast? := by simp [List.getLast?_cons_cons]
   rw [hg]
   show cpt (y :: z :: (l ++ [x])) = _
   have e1 : cpt (y :: z :: (l ++ [x])) = if y = z then cpt (z :: (l ++ [x])) else y :: cpt (z :: (l ++ [x])) := by
    rw [cpt]
   have e2 : cpt (y :: z :: l) = if y = z then cpt (z :: l) else y :: cpt (z :: l) := by
    rw [cpt]
   rw [e1, e2, show z :: (l ++ [x]) = (z :: l) ++ [x] from rfl, ih]
   by_cases h : y = z
   ·rw [if_pos h, if_pos h]
   ·rw [if_neg h, if_neg h]
    split <;> rfl
/-- as long as no neighbours are equal -/
theorem cpt_id {α : Type} [DecidableEq α] : ∀ l : List α, (∀ j x y, l[j]? = some x → l[j + 1]? = some y → x ≠ y) → cpt l = l
 | [], _ => rfl
 | [_], _ => rfl
 | x :: y :: l, h => by
   have ih := cpt_id (y :: l) fun j a b h1 h2 => h (j + 1) a b (by simpa using h1) (by simpa using h2)
   rw [cpt, if_neg (h 0 x y rfl rfl), ih]
end Go.Sp

/-
 SPLITTING a chain, plain: the places where chains meet lie on their segments. Own work.
-/
namespace Go.Sp
open Go.Ge

theorem meetL_on {a b c d p : Pt} (h : meetL a b c d = .touch p) : btw a b p := by
 unfold meetL at h
 have hm := (onB_mem a b c d 4 [a, b, c, d] rfl).2
 generalize onB a b c d [a, b, c, d] = l at *
 match l, h with
 | [x], h =>
   injection h with h
   subst h
   exact ((hm _).1 (List.mem_singleton.2 rfl)).2.1
 | [], h =>
   by_cases hc : 0 ≤ ar c d a * ar c d b ∨ 0 ≤ ar a b c * ar a b d
   ·simp only [if_pos hc] at h; cases h
   ·simp only [if_neg hc] at h
    cases h
    have h1 : ¬0 ≤ ar c d a * ar c d b := fun e => hc (.inl e)
    obtain ⟨_, t0, t1⟩ := rat_sgn (p := ar c d a) (q := ar c d b) (fun e => h1 (Rat.le_of_lt e)) (fun e => h1 (by rw [e.1, Rat.zero_mul]; exact Rat.le_refl))
    exact btw_onS.2 ⟨_, t0, t1, rfl, rfl⟩
theorem rowC_mem {M : Nat → Nat → Mt} {i : Nat} : ∀ {k : Nat} {x : Cr}, x ∈ rowC M i k → x.1 = i ∧ x.2.1 < k ∧ M i x.2.1 = .touch x.2.2
 | 0, x, h => by simp [rowC] at h
 | k + 1, x, h => by
   unfold rowC at h
   rcases List.mem_append.1 h with h | h
   ·obtain ⟨h1, h2, h3⟩ := rowC_mem h
    exact ⟨h1, by omega, h3⟩
   ·cases hm : M i k with
    | touch p =>
      rw [hm] at h
      obtain rfl : x = (i, k, p) := by simpa [Mt.tch] using h
      exact ⟨rfl, Nat.lt_succ_self k, hm⟩
    | apart => rw [hm] at h; simp [Mt.tch] at h
    | over => rw [hm] at h; simp [Mt.tch] at h
theorem outC_mem {M : Nat → Nat → Mt} {nb : Nat} : ∀ {na : Nat} {x : Cr}, x ∈ outC M nb na → x.1 < na ∧ x.2.1 < nb ∧ M x.1 x.2.1 = .touch x.2.2
 | 0, x, h => by simp [outC] at h
 | na + 1, x, h => by
   unfold outC at h
   rcases List.mem_append.1 h with h | h
   ·obtain ⟨h1, h2, h3⟩ := outC_mem h
    exact ⟨by omega, h2, h3⟩
   ·obtain ⟨h1, h2, h3⟩ := rowC_mem h
    rw [h1]
    exact ⟨Nat.lt_succ_self na, h2, h3⟩
theorem out_on {a b : List Pt} {na nb : Nat} : ∀ x ∈ outC (mL a b) nb na, btw (gt a x.1) (gt a (x.1 + 1)) x.2.2 := fun x hx => meetL_on (outC_mem hx).2.2
end Go.Sp

/-
 SPLITTING, plain: how many places and points; where the points come from. Own work.
-/
namespace Go.Sp
open Go.Ge

theorem onI_app (i : Nat) (l m : List (Nat × Nat × Pt)) : onI i (l ++ m) = onI i l ++ onI i m := by unfold onI; rw [List.filter_append, List.map_append]
theorem onI_snoc (i : Nat) (l : List (Nat × Nat × Pt)) (x : Nat × Nat × Pt) : onI i (l ++ [x]) = if x.1 = i then onI i l ++ [x.2.2] else onI i l := by
 rw [onI_app]
 unfold onI
 by_cases h : x.1 = i
 ·rw [if_pos h, List.filter_cons_of_pos (by simpa using h)]; rfl
 ·rw [if_neg h, List.filter_cons_of_neg (by simpa using h)]; simp
theorem rowC_len {M : Nat → Nat → Mt} {i : Nat} : ∀ k, (rowC M i k).length ≤ k
 | 0 => Nat.le_refl _
 | k + 1 => by
   have ih := rowC_len (M := M) (i := i) k
   unfold rowC
   rw [List.length_append]
   have : ((M i k).tch i k).length ≤ 1 := by cases M i k <;> simp [Mt.tch]
   omega
theorem onI_outC {M : Nat → Nat → Mt} {nb i : Nat} : ∀ na, (onI i (outC M nb na)).length ≤ nb ∧ (na ≤ i → onI i (outC M nb na) = [])
 | 0 => ⟨Nat.zero_le _, fun _ => rfl⟩
 | na + 1 => by
   obtain ⟨h1, h2⟩ := onI_outC (M := M) (nb := nb) (i := i) na
   have h3 : i ≠ na → onI i (rowC M na nb) = [] := by
    intro hne
    have : (rowC M na nb).filter (fun x => x.1 == i) = [] := by
     rw [List.filter_eq_nil_iff]
     intro x hx e
     have := (rowC_mem hx).1
     exact hne (by rw [← this]; exact (by simpa using e : x.1 = i).symm)
    unfold onI; rw [this]; rfl
   show (onI i (outC M nb na ++ rowC M na nb)).length ≤ nb ∧ _
   rw [show outC M nb (na + 1) = outC M nb na ++ rowC M na nb from rfl, onI_app]
   by_cases hi : i = na
   ·subst hi
    rw [h2 (Nat.le_refl _), List.nil_append]
    refine ⟨?_, fun h => by omega⟩
    unfold onI
    rw [List.length_map]
    exact Nat.le_trans (List.length_filter_le ..) (rowC_len nb)
   ·rw [h3 hi, List.append_nil]
    exact ⟨h1, fun h => h2 (by omega)⟩
theorem cpt_len {α : Type} [DecidableEq α] : ∀ l : List α, (cpt l).length ≤ l.length
 | [] => Nat.le_refl _
 | [_] => Nat.le_refl _
 | x :: y :: l => by
   have ih := cpt_len (y :: l)
   unfold cpt
   split
   ·simp only [List.length_cons] at ih ⊢; omega
   ·simp only [List.length_cons] at ih ⊢; omega
theorem cutS_len {α : Type} [DecidableEq α] : ∀ (l : List α) (st : List (List α) × List α), (l.foldl cutS st).1.length = st.1.length + l.length ∧ (l.foldl cutS st).2.length ≤ max 1 st.2.length
 | [], st => ⟨rfl, by simp; omega⟩
 | x :: l, st => by
   obtain ⟨h1, h2⟩ := cutS_len l (cutS st x)
   rw [List.foldl_cons]
   constructor
   ·rw [h1]; simp only [cutS, List.length_append, List.length_cons, List.length_nil]; omega
   ·have e : (cutS st x).2.length = 1 := rfl
    rw [e] at h2; omega
theorem seg_len {α : Type} [DecidableEq α] (b : α) (l : List α) (st : List (List α) × List α) : (segS b l st).1.length = st.1.length + l.length ∧ (segS b l st).2.length ≤ max 1 st.2.length + 1 := by
 obtain ⟨h1, h2⟩ := cutS_len l st
 unfold segS
 simp only
 split
 ·exact ⟨h1, by omega⟩
 ·refine ⟨h1, ?_⟩
  simp only [List.length_append, List.length_cons, List.length_nil]; omega
theorem cutsOf_len (a : List Pt) (xs : List (Nat × Nat × Pt)) (i : Nat) : (cutsOf a xs i).length ≤ (onI i xs).length := by
 unfold cutsOf
 refine Nat.le_trans (cpt_len _) ?_
 rw [List.length_mergeSort]
 exact List.length_filter_le ..
theorem parts_len {a : List Pt} {xs : List (Nat × Nat × Pt)} {m : Nat} (h : ∀ i, (onI i xs).length ≤ m) : ∀ k, (partsK a xs k).1.length ≤ k * m ∧ (partsK a xs k).2.length ≤ k + 1
 | 0 => ⟨Nat.zero_le _, Nat.le_refl _⟩
 | k + 1 => by
   obtain ⟨h1, h2⟩ := parts_len (a := a) h k
   obtain ⟨h3, h4⟩ := seg_len (gt a (k + 1)) (cutsOf a xs k) (partsK a xs k)
   have h5 := Nat.le_trans (cutsOf_len a xs k) (h k)
   show (segS (gt a (k + 1)) (cutsOf a xs k) (partsK a xs k)).1.length ≤ _ ∧ (segS (gt a (k + 1)) (cutsOf a xs k) (partsK a xs k)).2.length ≤ _
   rw [Nat.add_mul]
   omega
/-- each point is one of the chain or a place -/
theorem cutS_all {α : Type} {P : α → Prop} : ∀ (l : List α) (st : List (List α) × List α), (∀ p ∈ l, P p) → (∀ q ∈ st.1, ∀ p ∈ q, P p) → (∀ p ∈ st.2, P p) → (∀ q ∈ (l.foldl cutS st).1, ∀ p ∈ q, P p) ∧ ∀ p ∈ (l.foldl cutS st).2, P p
 | [], st, _, h2, h3 => ⟨h2, h3⟩
 | x :: l, st, h1, h2, h3 => by
   have hx : ∀ p ∈ [x], P p := fun p hp => by cases List.mem_singleton.1 hp; exact h1 x (List.mem_cons_self ..)
   refine cutS_all l (cutS st x) (fun p hp => h1 p (List.mem_cons_of_mem _ hp)) (fun q hq p hp => ?_) hx
   rcases List.mem_append.1 hq with hq | hq
   ·exact h2 q hq p hp
   ·cases List.mem_singleton.1 hq
    exact (List.mem_append.1 hp).elim (h3 p) (hx p)
theorem parts_all {P : Pt → Prop} {a : List Pt} {xs : List (Nat × Nat × Pt)} (ha : ∀ j, j < a.length → P (gt a j)) (hx : ∀ x ∈ xs, P x.2.2) : ∀ k, k < a.length → (∀ q ∈ (partsK a xs k).1, ∀ p ∈ q, P p) ∧ (∀ p ∈ (partsK a xs k).2, P p)
 | 0, h => ⟨fun q hq => (by cases hq), fun p hp => by cases List.mem_singleton.1 hp; exact ha 0 h⟩
 | k + 1, h => by
   obtain ⟨h1, h2⟩ := parts_all ha hx k (by omega)
   have hc : ∀ p ∈ cutsOf a xs k, P p := by
    intro p hp
    unfold cutsOf at hp
    rw [cpt_mem, List.mem_mergeSort, List.mem_filter] at hp
    unfold onI at hp
    obtain ⟨x, hx1, rfl⟩ := List.mem_map.1 hp.1
    exact hx x (List.mem_filter.1 hx1).1
   obtain ⟨h3, h4⟩ := cutS_all (cutsOf a xs k) (partsK a xs k) hc h1 h2
   show (∀ q ∈ (segS (gt a (k + 1)) (cutsOf a xs k) (partsK a xs k)).1, ∀ p ∈ q, P p) ∧ ∀ p ∈ (segS (gt a (k + 1)) (cutsOf a xs k) (partsK a xs k)).2, P p
   unfold segS
   simp only
   split
   ·exact ⟨h3, h4⟩
   ·exact ⟨h3, fun p hp => (List.mem_append.1 hp).elim (h4 p) fun hp => by cases List.mem_singleton.1 hp; exact ha (k + 1) h⟩
end Go.Sp
