/-
 OWN MATRICES: a row of rows, all of the call's own. Own work.
-/
import Derived.Test.YtokpkgcjjbdinaaGreatDoorPl
import Derived.Test.YtokpkgcjjbdinaaGreatDoorEe
import Derived.Laws.OwnMore
import Derived.Below
import Derived.Test.YtokpkgcjjbdinaaGreatDoorEd
set_option linter.unusedVariables false
set_option linter.unusedSimpArgs false
namespace Go.Pi
open Go Go.RowKit

/-- a function of an index as a list -/
def lst {α : Type} (n : Nat) (f : Nat → α) : List α := (List.range n).map f
theorem lst_len {α : Type} (n : Nat) (f : Nat → α) : (lst n f).length = n := by simp [lst]
theorem lst_at {α : Type} {n j : Nat} (f : Nat → α) (h : j < n) : (lst n f)[j]? = some (f j) := by simp [lst, h]
theorem lst_set {α : Type} {n j : Nat} (f : Nat → α) (u : α) : (lst n f).set j u = lst n (fun i => if i = j then u else f i) := by
 apply List.ext_getElem?
 intro i
 rw [List.getElem?_set]
 by_cases hi : i < n
 ·rw [lst_at _ hi, lst_at _ hi, lst_len]
  by_cases e : j = i
  ·subst e; rw [if_pos rfl, if_pos hi, if_pos rfl]
  ·rw [if_neg e, if_neg (Ne.symm e)]
 ·have h1 : ∀ g : Nat → α, (lst n g)[i]? = none := fun g => List.getElem?_eq_none (by rw [lst_len]; omega)
  rw [h1, h1, lst_len]
  split
  ·rename_i e; subst e; rw [if_neg hi]
  ·rfl
theorem lst_congr {α : Type} {n : Nat} {f g : Nat → α} (h : ∀ i, i < n → f i = g i) : lst n f = lst n g := by
 unfold lst
 exact List.map_congr_left fun i hi => h i (List.mem_range.1 hi)
theorem lst_succ {α : Type} (n : Nat) (f : Nat → α) : lst (n + 1) f = lst n f ++ [f n] := by
 unfold lst; rw [List.range_succ, List.map_append]; rfl

structure OwnM (W : World) (base eR eS g cap n m : Nat) (B C : Nat → Nat) (X : Nat → Nat → Value) : Prop where
 top : W.ownsRow base eR 1 (.slice (some ⟨g, 0, none⟩) n cap) n (lst n fun i => .slice (some ⟨B i, 0, none⟩) m (C i))
 row : ∀ i, i < n → W.ownsRow base eS 1 (.slice (some ⟨B i, 0, none⟩) m (C i)) m (lst m (X i))
 ne : ∀ i, i < n → B i ≠ g
 inj : ∀ i j, i < n → j < n → B i = B j → i = j

namespace OwnM
variable {W : World} {base eR eS g cap n m : Nat} {B C : Nat → Nat} {X Y : Nat → Nat → Value}
theorem topLt (h : OwnM W base eR eS g cap n m B C X) : base ≤ g ∧ g < W.heap.size := h.top.lt g rfl
theorem rowLt (h : OwnM W base eR eS g cap n m B C X) {i : Nat} (hi : i < n) : base ≤ B i ∧ B i < W.heap.size := (h.row i hi).lt (B i) rfl
theorem drew (h : OwnM W base eR eS g cap n m B C X) : OwnM W.drew base eR eS g cap n m B C X := ⟨h.top.drew, fun i hi => (h.row i hi).drew, h.ne, h.inj⟩
theorem kept {W' : World} (h : OwnM W base eR eS g cap n m B C X) (hg : W.grownBy W' none) : OwnM W' base eR eS g cap n m B C X :=
 ⟨h.top.kept hg (.inr (by simp [Value.ownBlock])), fun i hi => (h.row i hi).kept hg (.inr (by simp [Value.ownBlock])), h.ne, h.inj⟩
theorem below {W' : World} (h : OwnM W base eR eS g cap n m B C X) (hb : Below W.heap.size W W') : OwnM W' base eR eS g cap n m B C X := h.kept (gr_below hb)
theorem congr (h : OwnM W base eR eS g cap n m B C X) (e : ∀ i, i < n → ∀ j, j < m → X i j = Y i j) : OwnM W base eR eS g cap n m B C Y :=
 ⟨h.top, fun i hi => by rw [← lst_congr (e i hi)]; exact h.row i hi, h.ne, h.inj⟩
/-- a store into a row -/
theorem setRow (h : OwnM W base eR eS g cap n m B C X) {i : Nat} (hi : i < n) (j : Nat) (v : Value) :
  OwnM (W.setCell ⟨B i, j, none⟩ v) base eR eS g cap n m B C (fun a b => if a = i ∧ b = j then v else X a b) := by
 obtain ⟨h1, h2⟩ := (h.row i hi).stored j v
 refine ⟨h.top.kept h2 (.inr (by simp [Value.ownBlock]; exact fun e => h.ne i hi e.symm)), fun a ha => ?_, h.ne, h.inj⟩
 by_cases e : a = i
 ·subst e
  rw [lst_set] at h1
  rw [show lst m (fun b => if a = a ∧ b = j then v else X a b) = lst m (fun b => if b = j then v else X a b) from lst_congr fun b _ => by simp]
  exact h1
 ·rw [show lst m (fun b => if a = i ∧ b = j then v else X a b) = lst m (X a) from lst_congr fun b _ => by simp [e]]
  exact (h.row a ha).kept h2 (.inr (by simp [Value.ownBlock]; exact fun e2 => e (h.inj a i ha hi e2)))
/-- two rows exchanged -/
theorem swap (h : OwnM W base eR eS g cap n m B C X) {a b : Nat} (ha : a < n) (hb : b < n) :
  OwnM ((W.setCell ⟨g, a, none⟩ (.slice (some ⟨B b, 0, none⟩) m (C b))).setCell ⟨g, b, none⟩ (.slice (some ⟨B a, 0, none⟩) m (C a))) base eR eS g cap n m
   (fun i => if i = a then B b else if i = b then B a else B i) (fun i => if i = a then C b else if i = b then C a else C i) (fun i => if i = a then X b else if i = b then X a else X i) := by
 obtain ⟨h1, h2⟩ := h.top.stored a (.slice (some ⟨B b, 0, none⟩) m (C b))
 obtain ⟨h3, h4⟩ := h1.stored b (.slice (some ⟨B a, 0, none⟩) m (C a))
 have hg := gr_trans h2 h4
 refine ⟨?_, ?_, ?_, ?_⟩
 ·rw [lst_set, lst_set] at h3
  rw [show lst n (fun i => Value.slice (some ⟨if i = a then B b else if i = b then B a else B i, 0, none⟩) m (if i = a then C b else if i = b then C a else C i)) = lst n (fun i => if i = b then Value.slice (some ⟨B a, 0, none⟩) m (C a) else if i = a then Value.slice (some ⟨B b, 0, none⟩) m (C b) else Value.slice (some ⟨B i, 0, none⟩) m (C i)) from lst_congr fun i _ => by
   by_cases e1 : i = a
   ·by_cases e2 : i = b
    ·subst e1; subst e2; simp
    ·simp [e1]
     intro e; subst e; exact absurd e1 e2
   ·by_cases e2 : i = b
    ·simp [e2]
     exact ⟨fun e => absurd (e2.trans e) e1, fun e => absurd (e2.trans e) e1⟩
    ·simp [e1, e2]]
  exact h3
 ·intro i hi
  have hr : ∀ k, k < n → ((W.setCell ⟨g, a, none⟩ (.slice (some ⟨B b, 0, none⟩) m (C b))).setCell ⟨g, b, none⟩ (.slice (some ⟨B a, 0, none⟩) m (C a))).ownsRow base eS 1 (.slice (some ⟨B k, 0, none⟩) m (C k)) m (lst m (X k)) := fun k hk => (h.row k hk).kept hg (.inr (by simp [Value.ownBlock]; exact h.ne k hk))
  by_cases e1 : i = a
  ·simp only [if_pos e1]; exact hr b hb
  ·by_cases e2 : i = b
   ·simp only [if_neg e1, if_pos e2]; exact hr a ha
   ·simp only [if_neg e1, if_neg e2]; exact hr i hi
 ·intro i hi
  by_cases e1 : i = a
  ·simp only [if_pos e1]; exact h.ne b hb
  ·by_cases e2 : i = b
   ·simp only [if_neg e1, if_pos e2]; exact h.ne a ha
   ·simp only [if_neg e1, if_neg e2]; exact h.ne i hi
 ·intro i j hi hj hij
  have key : ∀ x y, x < n → y < n → B x = B y → x = y := h.inj
  by_cases e1 : i = a
  ·subst e1
   by_cases e3 : j = i
   ·exact e3.symm
   ·by_cases e4 : j = b
    ·subst e4
     simp only [if_pos, if_neg e3] at hij
     exact (key j i hb ha hij).symm
    ·simp only [if_pos, if_neg e3, if_neg e4] at hij
     exact absurd (key b j hb hj hij).symm e4
  ·by_cases e2 : i = b
   ·subst e2
    by_cases e3 : j = a
    ·subst e3
     simp only [if_neg e1, if_pos] at hij
     exact (key j i ha hb hij).symm
    ·by_cases e4 : j = i
     ·exact e4.symm
     ·simp only [if_neg e1, if_pos, if_neg e3, if_neg e4] at hij
      exact absurd (key a j ha hj hij).symm e3
   ·by_cases e3 : j = a
    ·subst e3
     simp only [if_neg e1, if_neg e2, if_pos] at hij
     exact absurd (key i b hi hb hij) e2
    ·by_cases e4 : j = b
     ·subst e4
      simp only [if_neg e1, if_neg e2, if_neg e3, if_pos] at hij
      exact absurd (key i a hi ha hij) e1
     ·simp only [if_neg e1, if_neg e2, if_neg e3, if_neg e4] at hij
      exact key i j hi hj hij
end OwnM
/-- a row of strings as data -/
theorem rep_strs {W : World} {S : Nat → Nat → Prop} {base e : Nat} {v : Value} {n : Nat} {f : Nat → List UInt8} (h : W.ownsRow base e 1 v n (lst n fun i => .string ⟨(f i).toArray⟩)) (hl : ∀ i, i < n → (f i).length ≤ maxLen) (hS : ∀ b j, base ≤ b → b < W.heap.size → S b j) :
  Rep S W (.sl n (lst n fun i => .str (f i))) v := by
 rcases h.2 with ⟨rfl, h0⟩ | ⟨b, cap, cur, rfl, hbg, hg, hn, hc, _, _⟩
 ·subst h0; exact .sl0 none 0 (Nat.zero_le _)
 ·refine .sl n (lst n fun i => .str (f i)) b 0 cap (lst n fun i => .string ⟨(f i).toArray⟩) (by rw [lst_len, lst_len]) (fun d hd => ?_) hn hc (fun i u hu => ⟨hS b _ hbg (Array.getElem?_eq_some_iff.1 hg).1, ?_⟩) (fun i d u hd hu => ?_)
  ·unfold lst at hd
   obtain ⟨x, _, rfl⟩ := List.mem_map.1 hd
   rfl
  ·have hlt := (List.getElem?_eq_some_iff.1 hu).1
   rw [lst_len] at hlt
   rw [Nat.zero_add, h.cellAt i (by omega)]; exact hu
  ·have hlt := (List.getElem?_eq_some_iff.1 hu).1
   rw [lst_len] at hlt
   rw [lst_at _ hlt] at hd hu
   cases hd; cases hu
   exact .str _ (hl i hlt)
/-- an own matrix of strings as data -/
theorem OwnM.rep {W : World} {S : Nat → Nat → Prop} {base eR eS g cap n m : Nat} {B C : Nat → Nat} {f : Nat → Nat → List UInt8} (h : OwnM W base eR eS g cap n m B C (fun i j => .string ⟨(f i j).toArray⟩)) (hl : ∀ i, i < n → ∀ j, j < m → (f i j).length ≤ maxLen) (hS : ∀ b j, base ≤ b → b < W.heap.size → S b j) :
  Rep S W (.sl n (lst n fun i => .sl m (lst m fun j => .str (f i j)))) (.slice (some ⟨g, 0, none⟩) n cap) := by
 rcases h.top.2 with ⟨h1, _⟩ | ⟨b, cap', cur, hv, hbg, hg, hn, hc, _, _⟩
 ·simp at h1
 ·simp only [Value.slice.injEq, Option.some.injEq, Addr.mk.injEq, and_true, true_and] at hv
  obtain ⟨rfl, rfl⟩ := hv
  refine .sl n _ g 0 cap (lst n fun i => .slice (some ⟨B i, 0, none⟩) m (C i)) (by rw [lst_len, lst_len]) (fun d hd => ?_) hn hc (fun i u hu => ⟨hS g _ hbg (Array.getElem?_eq_some_iff.1 hg).1, ?_⟩) (fun i d u hd hu => ?_)
  ·unfold lst at hd
   obtain ⟨x, _, rfl⟩ := List.mem_map.1 hd
   rfl
  ·have hlt := (List.getElem?_eq_some_iff.1 hu).1
   rw [lst_len] at hlt
   rw [Nat.zero_add, h.top.cellAt i (by omega)]; exact hu
  ·have hlt := (List.getElem?_eq_some_iff.1 hu).1
   rw [lst_len] at hlt
   rw [lst_at _ hlt] at hd hu
   cases hd; cases hu
   exact rep_strs (h.row i hlt) (hl i hlt) hS
end Go.Pi
namespace Go.Pi
open Go Go.RowKit
/-- rows of different kinds lie in different blocks -/
theorem own_ne {w : World} {b1 b2 e1 e2 s1 s2 g1 g2 n1 n2 c1 c2 : Nat} {xs ys : List Value} (h1 : w.ownsRow b1 e1 s1 (.slice (some ⟨g1, 0, none⟩) n1 c1) n1 xs) (h2 : w.ownsRow b2 e2 s2 (.slice (some ⟨g2, 0, none⟩) n2 c2) n2 ys) (hne : e1 ≠ e2) : g1 ≠ g2 := by
 rintro rfl
 rcases h1.2 with ⟨h, _⟩ | ⟨g, cap, cur, h, _, hg, _⟩
 ·simp at h
 ·rcases h2.2 with ⟨h', _⟩ | ⟨g', cap', cur', h', _, hg', _⟩
  ·simp at h'
  ·simp only [Value.slice.injEq, Option.some.injEq, Addr.mk.injEq, and_true, true_and] at h h'
   obtain ⟨rfl, rfl⟩ := h
   obtain ⟨rfl, rfl⟩ := h'
   rw [hg] at hg'
   cases hg'
   exact hne rfl
/-- the first k rows of a matrix under way: the outer row may be nil -/
def OwnQ (W : World) (base eR eS : Nat) (v : Value) (k m : Nat) (B C : Nat → Nat) (X : Nat → Nat → Value) : Prop :=
 W.ownsRow base eR 1 v k (lst k fun i => .slice (some ⟨B i, 0, none⟩) m (C i)) ∧ (∀ i, i < k → W.ownsRow base eS 1 (.slice (some ⟨B i, 0, none⟩) m (C i)) m (lst m (X i))) ∧ (∀ i j, i < k → j < k → B i = B j → i = j)
theorem OwnQ.whole {W : World} {base eR eS n m : Nat} {v : Value} {B C : Nat → Nat} {X : Nat → Nat → Value} (h : OwnQ W base eR eS v n m B C X) (hn : 0 < n) (hne : eR ≠ eS) : ∃ g cap, v = .slice (some ⟨g, 0, none⟩) n cap ∧ OwnM W base eR eS g cap n m B C X := by
 obtain ⟨h1, h2, h3⟩ := h
 rcases h1.2 with ⟨_, h0⟩ | ⟨g, cap, cur, rfl, _⟩
 ·omega
 ·exact ⟨g, cap, rfl, h1, h2, fun i hi => (own_ne h1 (h2 i hi) hne).symm, h3⟩
end Go.Pi
namespace Go.Pi
open Go Go.RowKit
/-- one row more -/
theorem OwnQ.push {W W1 W2 : World} {base eR eS k m b1 c1 : Nat} {v v5 : Value} {B C : Nat → Nat} {X : Nat → Nat → Value} {r : Nat → Value} {ob : Obj}
  (h : OwnQ W base eR eS v k m B C X) (hne : eR ≠ eS) (hbase : base ≤ W.heap.size) (hb1 : Below W.heap.size W W1) (o1 : W1.ownsRow W.heap.size eS 1 (.slice (some ⟨b1, 0, none⟩) m c1) m (lst m r))
  (o5 : W2.ownsRow base eR 1 v5 (k + 1) ((lst k fun i => .slice (some ⟨B i, 0, none⟩) m (C i)) ++ [.slice (some ⟨b1, 0, none⟩) m c1])) (hg : (W1.alloc ob).grownBy W2 v.ownBlock) :
  OwnQ W2 base eR eS v5 (k + 1) m (fun i => if i = k then b1 else B i) (fun i => if i = k then c1 else C i) (fun i => if i = k then r else X i) := by
 obtain ⟨h1, h2, h3⟩ := h
 have hlt := o1.lt b1 rfl
 have hB : ∀ i, i < k → B i < W.heap.size := fun i hi => ((h2 i hi).lt (B i) rfl).2
 have hbn : ∀ i, i < k → v.ownBlock ≠ some (B i) := by
  intro i hi
  rcases h1.2 with ⟨rfl, _⟩ | ⟨g, cap, cur, rfl, _⟩
  ·simp [Value.ownBlock]
  ·simp only [Value.ownBlock, ne_eq, Option.some.injEq]
   exact own_ne h1 (h2 i hi) hne
 have hb1n : v.ownBlock ≠ some b1 := fun e => by have := (h1.lt b1 e).2; omega
 refine ⟨?_, ?_, ?_⟩
 ·rw [lst_succ]
  simp only [if_pos]
  rw [lst_congr (g := fun i => Value.slice (some ⟨B i, 0, none⟩) m (C i)) (fun i hi => by rw [if_neg (by omega), if_neg (by omega)])]
  exact o5
 ·intro i hi
  by_cases e : i = k
  ·simp only [if_pos e]
   exact own_base ((o1.alloc ob).kept hg (.inr (by simp only [Value.ownBlock]; exact fun e => hb1n e.symm))) hbase
  ·simp only [if_neg e]
   exact (((h2 i (by omega)).kept (gr_below (r := none) hb1) (.inr (by simp [Value.ownBlock]))).alloc ob).kept hg (.inr (by simp only [Value.ownBlock]; exact fun e => hbn i (by omega) e.symm))
 ·intro i j hi hj hij
  by_cases e1 : i = k
  ·by_cases e2 : j = k
   ·omega
   ·simp only [if_pos e1, if_neg e2] at hij
    have := hB j (by omega); omega
  ·by_cases e2 : j = k
   ·simp only [if_neg e1, if_pos e2] at hij
    have := hB i (by omega); omega
   ·simp only [if_neg e1, if_neg e2] at hij
    exact h3 i j (by omega) (by omega) hij
end Go.Pi
namespace Go.Pi
open Go Go.RowKit
theorem World.grownBy.trans_own {W : World} {base e sz g n cap : Nat} {xs : List Value} (h : W.ownsRow base e sz (.slice (some ⟨g, 0, none⟩) n cap) n xs) (a b : Nat) (u v : Value) : W.grownBy ((W.setCell ⟨g, a, none⟩ u).setCell ⟨g, b, none⟩ v) (some g) := by
 obtain ⟨h1, h2⟩ := h.stored a u
 exact gr_trans h2 (h1.stored b v).2
end Go.Pi
namespace Go.Pi
open Go Go.RowKit
theorem own_ne' {w : World} {b1 b2 e1 e2 s1 s2 g2 n1 n2 c2 : Nat} {v : Value} {xs ys : List Value} (h1 : w.ownsRow b1 e1 s1 v n1 xs) (h2 : w.ownsRow b2 e2 s2 (.slice (some ⟨g2, 0, none⟩) n2 c2) n2 ys) (hne : e1 ≠ e2) : v.ownBlock ≠ some g2 := by
 rcases h1.2 with ⟨rfl, _⟩ | ⟨g, cap, cur, rfl, _⟩
 ·simp [Value.ownBlock]
 ·simp only [Value.ownBlock, ne_eq, Option.some.injEq]
  exact own_ne h1 h2 hne
end Go.Pi
namespace Go.Pi
open Go Go.RowKit
/-- a matrix, a list and a box under way, all of the call's own -/
structure OwnK (W0 W : World) (eR eS eI g cap n m : Nat) (B C : Nat → Nat) (X : Nat → Nat → Value) (v : Value) (k : Nat) (xs : List Value) (bx : Nat) (c : Int) : Prop where
 mat : OwnM W W0.heap.size eR eS g cap n m B C X
 ld : W.ownsRow W0.heap.size eI 1 v k xs
 bel : Below W0.heap.size W0 W
 box : W.heap[bx]? = some (.cells #[.int .i64 c] eI (0, 0))
namespace OwnK
variable {W0 W : World} {eR eS eI g cap n m : Nat} {B C : Nat → Nat} {X Y : Nat → Nat → Value} {v : Value} {k : Nat} {xs : List Value} {bx : Nat} {c : Int}
theorem boxLt (h : OwnK W0 W eR eS eI g cap n m B C X v k xs bx c) : bx < W.heap.size := (Array.getElem?_eq_some_iff.1 h.box).1
theorem neBox {w : World} {b1 e1 e2 s1 n1 c1 g1 : Nat} {ys : List Value} {arr : Array Value} (h : w.ownsRow b1 e1 s1 (.slice (some ⟨g1, 0, none⟩) n1 c1) n1 ys) (hb : w.heap[bx]? = some (.cells arr e2 (0, 0))) (hne : e1 ≠ e2) : bx ≠ g1 := by
 rintro rfl
 rcases h.2 with ⟨h, _⟩ | ⟨g, cap, cur, h, _, hg, _⟩
 ·simp at h
 ·simp only [Value.slice.injEq, Option.some.injEq, Addr.mk.injEq, and_true, true_and] at h
  obtain ⟨rfl, rfl⟩ := h
  rw [hg] at hb
  cases hb
  exact hne rfl
theorem drew (h : OwnK W0 W eR eS eI g cap n m B C X v k xs bx c) : OwnK W0 W.drew eR eS eI g cap n m B C X v k xs bx c := ⟨h.mat.drew, h.ld.drew, h.bel.drew, h.box⟩
theorem below {W' : World} (h : OwnK W0 W eR eS eI g cap n m B C X v k xs bx c) (hb : Below W.heap.size W W') : OwnK W0 W' eR eS eI g cap n m B C X v k xs bx c :=
 ⟨h.mat.below hb, h.ld.kept (gr_below (r := none) hb) (Classical.em _), h.bel.trans (hb.mono h.bel.size), (hb.block bx h.boxLt).trans h.box⟩
theorem congr (h : OwnK W0 W eR eS eI g cap n m B C X v k xs bx c) (e : ∀ i, i < n → ∀ j, j < m → X i j = Y i j) : OwnK W0 W eR eS eI g cap n m B C Y v k xs bx c :=
 ⟨h.mat.congr e, h.ld, h.bel, h.box⟩
theorem setRow (h : OwnK W0 W eR eS eI g cap n m B C X v k xs bx c) (h1 : eS ≠ eI) {i : Nat} (hi : i < n) (j : Nat) (u : Value) : OwnK W0 (W.setCell ⟨B i, j, none⟩ u) eR eS eI g cap n m B C (fun a b => if a = i ∧ b = j then u else X a b) v k xs bx c := by
 have hg := ((h.mat.row i hi).stored j u).2
 refine ⟨h.mat.setRow hi j u, h.ld.kept hg (.inr (own_ne' h.ld (h.mat.row i hi) h1.symm)), h.bel.setCell (h.mat.rowLt hi).1 u, ?_⟩
 rw [hg.block bx h.boxLt (by simp only [ne_eq, Option.some.injEq]; exact neBox (h.mat.row i hi) h.box h1)]
 exact h.box
theorem swap (h : OwnK W0 W eR eS eI g cap n m B C X v k xs bx c) (h1 : eR ≠ eI) {a b : Nat} (ha : a < n) (hb : b < n) :
  OwnK W0 ((W.setCell ⟨g, a, none⟩ (.slice (some ⟨B b, 0, none⟩) m (C b))).setCell ⟨g, b, none⟩ (.slice (some ⟨B a, 0, none⟩) m (C a))) eR eS eI g cap n m
   (fun i => if i = a then B b else if i = b then B a else B i) (fun i => if i = a then C b else if i = b then C a else C i) (fun i => if i = a then X b else if i = b then X a else X i) v k xs bx c := by
 have hg := World.grownBy.trans_own h.mat.top a b (.slice (some ⟨B b, 0, none⟩) m (C b)) (.slice (some ⟨B a, 0, none⟩) m (C a))
 refine ⟨h.mat.swap ha hb, h.ld.kept hg (.inr (own_ne' h.ld h.mat.top h1.symm)), h.bel.grown hg h.bel.size (fun k hk => by cases hk; exact h.mat.topLt.1), ?_⟩
 rw [hg.block bx h.boxLt (by simp only [ne_eq, Option.some.injEq]; exact neBox h.mat.top h.box h1)]
 exact h.box
end OwnK
end Go.Pi

/-
 FOLDS WITH STRAIGHT LIMBS: directions are of length 1; how lengths change. Own work.
-/
namespace Go.Kk
open Go.Ge

theorem div_eq {a b c : Rat} (hb : b ≠ 0) (h : a = c * b) : a / b = c := by
 rw [h, Rat.div_def, Rat.mul_assoc, Rat.mul_inv_cancel _ hb, Rat.mul_one]
theorem div_mul {a b : Rat} (hb : b ≠ 0) : a / b * b = a := by
 rw [Rat.div_def, Rat.mul_assoc, Rat.inv_mul_cancel _ hb, Rat.mul_one]

/-- cosine and sine -/
theorem dir_eq (t : Rat) : (dirK t).1 * (1 + t * t) = 1 - t * t ∧ (dirK t).2 * (1 + t * t) = t + t := ⟨div_mul (sq1_ne t), div_mul (sq1_ne t)⟩
theorem dir_one (t : Rat) : dt (dirK t) (dirK t) = 1 := by
 obtain ⟨h1, h2⟩ := dir_eq t
 have h3 := sq1_ne t
 unfold dt
 generalize (dirK t).1 = c at *
 generalize (dirK t).2 = s at *
 grind
theorem nrm_dir (t : Rat) : dt (dirK t) (nrm t) = 0 := by unfold dt nrm upK; grind
theorem nrm_one (t : Rat) : dt (nrm t) (nrm t) = 1 := by
 have := dir_one t
 unfold dt nrm upK at *; grind
/-- the tangent of half of the difference -/
def tanH (t u : Rat) : Rat := (t - u) / (1 + t * u)
theorem dot_nn {t u : Rat} (h : 1 + t * u ≠ 0) : 1 + dt (nrm t) (nrm u) ≠ 0 ∧ (1 + dt (nrm t) (nrm u)) * ((1 + t * t) * (1 + u * u)) = 2 * ((1 + t * u) * (1 + t * u)) := by
 obtain ⟨h1, h2⟩ := dir_eq t
 obtain ⟨h3, h4⟩ := dir_eq u
 have h5 := sq1_ne t
 have h6 := sq1_ne u
 have e : (1 + dt (nrm t) (nrm u)) * ((1 + t * t) * (1 + u * u)) = 2 * ((1 + t * u) * (1 + t * u)) := by
  unfold dt nrm upK
  generalize (dirK t).1 = c at *
  generalize (dirK t).2 = s at *
  generalize (dirK u).1 = c' at *
  generalize (dirK u).2 = s' at *
  grind
 refine ⟨fun z => ?_, e⟩
 rw [z, Rat.zero_mul] at e
 have : (1 + t * u) * (1 + t * u) = 0 := by grind
 rcases Rat.mul_eq_zero.1 this with h7 | h7 <;> exact h h7
theorem dot_dn {t u : Rat} : dt (dirK t) (nrm u) * ((1 + t * t) * (1 + u * u)) = 2 * ((t - u) * (1 + t * u)) := by
 obtain ⟨h1, h2⟩ := dir_eq t
 obtain ⟨h3, h4⟩ := dir_eq u
 unfold dt nrm upK
 generalize (dirK t).1 = c at *
 generalize (dirK t).2 = s at *
 generalize (dirK u).1 = c' at *
 generalize (dirK u).2 = s' at *
 grind
theorem dt_avg (d n m : Pt) : dt d (avg n m) = (dt d n + dt d m) * (1 / (1 + dt n m)) := by
 unfold avg pl dt; grind
theorem dt_pl (d p q : Pt) (k : Rat) : dt d (pl p q k) = dt d p + k * dt d q := by unfold dt pl; grind
theorem dt_mn (d p q : Pt) : dt d (mn p q) = dt d p - dt d q := by unfold mn; rw [dt_pl]; grind
theorem dt_comm (p q : Pt) : dt p q = dt q p := by unfold dt; grind
/-- what the normals' mean does along a limb -/
theorem dot_avg {t u : Rat} (h : 1 + t * u ≠ 0) : dt (dirK t) (avg (nrm t) (nrm u)) = tanH t u := by
 rw [dt_avg, nrm_dir]
 obtain ⟨h1, h2⟩ := dot_nn h
 have h3 := dot_dn (t := t) (u := u)
 have h5 := sq1_ne t
 have h6 := sq1_ne u
 unfold tanH
 generalize dt (dirK t) (nrm u) = x at *
 generalize dt (nrm t) (nrm u) = y at *
 symm
 refine div_eq h ?_
 have h7 : (1 / (1 + y)) * (1 + y) = 1 := div_mul h1
 generalize 1 / (1 + y) = z at *
 generalize 1 + t * t = a at *
 generalize 1 + u * u = b at *
 generalize 1 + t * u = c at *
 generalize 1 + y = w at *
 generalize t - u = e at *
 have h8 : a * b ≠ 0 := fun k => by rcases Rat.mul_eq_zero.1 k with k | k <;> contradiction
 grind
theorem dot_avg' {t u : Rat} (h : 1 + t * u ≠ 0) : dt (dirK t) (avg (nrm u) (nrm t)) = tanH t u := by
 rw [← dot_avg h]
 unfold avg pl dt
 grind
theorem ne_tan {t u : Rat} (h1 : -1 < t ∧ t < 1) (h2 : -1 < u ∧ u < 1) : 1 + t * u ≠ 0 := by
 intro h
 have a1 : 0 < (1 + t) * (1 + u) := Rat.mul_pos (by grind) (by grind)
 have a2 : 0 < (1 - t) * (1 - u) := Rat.mul_pos (by grind) (by grind)
 grind

/-- the tangents on both sides -/
theorem gr_eq (p : Pf) (hok : ∀ k, k < p.n → -1 < p.t k ∧ p.t k < 1) {k : Nat} (hk : k < p.n) : p.gr k = (if k + 1 = p.n then 0 else tanH (p.t k) (p.t (k + 1))) - (if k = 0 then 0 else tanH (p.t k) (p.t (k - 1))) := by
 unfold Pf.gr
 rw [dt_mn]
 congr 1
 ·unfold Pf.ax
  rw [if_neg (by omega)]
  split
  ·rw [Nat.add_sub_cancel]; exact nrm_dir _
  ·rename_i h; rw [Nat.add_sub_cancel]; exact dot_avg (ne_tan (hok k hk) (hok (k + 1) (by omega)))
 ·unfold Pf.ax
  split
  ·rename_i h; subst h; exact nrm_dir _
  ·rename_i h; rw [if_neg (by omega)]; exact dot_avg' (ne_tan (hok k hk) (hok (k - 1) (by omega)))

/-- the length of a bed in a domain is that between its points -/
theorem ln_eq (p : Pf) (h : Rat) (k : Nat) : dt (dirK (p.t k)) (mn (p.bd h (k + 1)) (p.bd h k)) = p.ln h k := by
 unfold Pf.ln Pf.gr Pf.bd
 rw [dt_mn, dt_mn, dt_pl, dt_pl]
 show dt (dirK (p.t k)) (pl (p.at' k) (dirK (p.t k)) (p.l k)) + _ - _ = _
 rw [dt_pl, dir_one]
 grind

/-- all domains have a length at the height -/
def Pf.win (p : Pf) (h : Rat) : Bool := decide (∀ k, k < p.n → 0 < p.ln h k)
/-- a sum from 0 on -/
def sumN (f : Nat → Rat) : Nat → Rat
 | 0 => 0
 | k + 1 => sumN f k + f k

/-- what is left of a way behind k domains -/
def Pf.rst (p : Pf) (h a : Rat) : Nat → Rat
 | 0 => a
 | k + 1 => p.rst h a k - p.ln h k
def Pf.fpt (p : Pf) (h a : Rat) (k : Nat) : Pt := pl (p.bd h k) (dirK (p.t k)) (p.rst h a k)
def Pf.fgo (p : Pf) (h a : Rat) : Nat → Nat → Option Pt
 | 0, _ => none
 | m + 1, k => if p.rst h a k ≤ p.ln h k then some (p.fpt h a k) else p.fgo h a m (k + 1)
/-- the height of a place over a domain's bed of the height 0; how far it is along -/
def Pf.hK (p : Pf) (q : Pt) (k : Nat) : Rat := dt (nrm (p.t k)) (mn q (p.at' k))
def Pf.xK (p : Pf) (q : Pt) (k : Nat) : Rat := dt (dirK (p.t k)) (mn q (p.bd (p.hK q k) k))
def Pf.inK (p : Pf) (q : Pt) (k : Nat) : Bool := p.win (p.hK q k) && decide (0 ≤ p.xK q k ∧ p.xK q k ≤ p.ln (p.hK q k) k)
def Pf.ugo (p : Pf) (q : Pt) : Nat → Nat → Option Pt
 | 0, _ => none
 | m + 1, k => if p.inK q k = true then some (sumN (p.ln (p.hK q k)) k + p.xK q k, p.hK q k) else p.ugo q m (k + 1)

end Go.Kk

/-
 What a function has made reads as a plain slice. Own work.
-/
namespace Go.Proofs
open Go Go.Pi Go.RowKit
theorem Con.flat {P : Program} {L : World → Prop} {f : FuncId} {ds : List D} {wr : Bool} {e m : Nat} {cs : List D} (h : Con P L f ds (.own wr e m cs)) : Con P L f ds (.sl m cs) := by
 refine ⟨⟨h.1.1, rfl⟩, fun S w vs hS hL hv => ((h.2 S w vs hS hL hv).mono ?_)⟩
 rintro e1 w' ⟨v, rfl, hb, ob, h1, h2⟩
 refine ⟨v, rfl, hb, ?_⟩
 show Rep _ w' (.sl m cs) v
 simp only [OwnR] at h2
 rcases h2 with ⟨_, rfl, rfl, rfl⟩ | ⟨b, cap, arr, rfl, rfl, h3, h4, h5, h6, h7, h8, h9, h10, h11⟩
 ·exact .sl0 none 0 (Nat.zero_le _)
 ·have h8' := h8.mono (S' := fun b j => S b j ∨ (w.heap.size ≤ b ∧ b < w'.heap.size)) (w' := w') (fun b o hh => hh.elim .inl fun hh => .inr ⟨hh.1, hh.2.1⟩) (fun _ _ _ => rfl)
  refine .sl m cs b 0 cap _ h8'.1 h9 h4 h5 ?_ h8'.2
  rw [← h7]
  exact Row.ofBlock h3 (fun j hj => .inr (h1 b rfl))
end Go.Proofs
