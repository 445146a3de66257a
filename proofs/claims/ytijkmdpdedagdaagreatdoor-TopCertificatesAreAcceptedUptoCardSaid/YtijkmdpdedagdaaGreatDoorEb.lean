/-
  OWN MATRICES: a row of rows, all of the call's own. Own work.
-/
import Derived.Test.YtijkmdpdedagdaaGreatDoorPj
import Derived.Test.YtijkmdpdedagdaaGreatDoorEa
import Derived.Laws.OwnMore
import Derived.Below
set_option linter.unusedVariables false
set_option linter.unusedSimpArgs false
namespace Go.Pi
open Go Go.RowKit

/-- a function of an index as a list -/
def lst {α : Type} (n : Nat) (f : Nat → α) : List α := (List.range n).map f
theorem lst_len {α : Type} (n : Nat) (f : Nat → α) : (lst n f).length = n := by simp [lst]
theorem lst_at {α : Type} {n j : Nat} (f : Nat → α) (h : j < n) : (lst n f)[j]? = some (f j) := by simp [lst, h]
theorem lst_set {α : Type} {n j : Nat} (f : Nat → α) (u : α) : (lst n f).set j u = lst n (fun i => if i = j then u else f i) := by
  apply List.ext_getElem?
  intro i
  rw [List.getElem?_set]
  by_cases hi : i < n
  · rw [lst_at _ hi, lst_at _ hi, lst_len]
    by_cases e : j = i
    · subst e; rw [if_pos rfl, if_pos hi, if_pos rfl]
    · rw [if_neg e, if_neg (Ne.symm e)]
  · have h1 : ∀ g : Nat → α, (lst n g)[i]? = none := fun g => List.getElem?_eq_none (by rw [lst_len]; omega)
    rw [h1, h1, lst_len]
    split
    · rename_i e; subst e; rw [if_neg hi]
    · rfl
theorem lst_congr {α : Type} {n : Nat} {f g : Nat → α} (h : ∀ i, i < n → f i = g i) : lst n f = lst n g := by
  unfold lst
  exact List.map_congr_left fun i hi => h i (List.mem_range.1 hi)
theorem lst_succ {α : Type} (n : Nat) (f : Nat → α) : lst (n + 1) f = lst n f ++ [f n] := by
  unfold lst; rw [List.range_succ, List.map_append]; rfl

structure OwnM (W : World) (base eR eS g cap n m : Nat) (B C : Nat → Nat) (X : Nat → Nat → Value) : Prop where
  top : W.ownsRow base eR 1 (.slice (some ⟨g, 0, none⟩) n cap) n (lst n fun i => .slice (some ⟨B i, 0, none⟩) m (C i))
  row : ∀ i, i < n → W.ownsRow base eS 1 (.slice (some ⟨B i, 0, none⟩) m (C i)) m (lst m (X i))
  ne : ∀ i, i < n → B i ≠ g
  inj : ∀ i j, i < n → j < n → B i = B j → i = j

namespace OwnM
variable {W : World} {base eR eS g cap n m : Nat} {B C : Nat → Nat} {X Y : Nat → Nat → Value}
theorem topLt (h : OwnM W base eR eS g cap n m B C X) : base ≤ g ∧ g < W.heap.size := h.top.lt g rfl
theorem rowLt (h : OwnM W base eR eS g cap n m B C X) {i : Nat} (hi : i < n) : base ≤ B i ∧ B i < W.heap.size := (h.row i hi).lt (B i) rfl
theorem drew (h : OwnM W base eR eS g cap n m B C X) : OwnM W.drew base eR eS g cap n m B C X := ⟨h.top.drew, fun i hi => (h.row i hi).drew, h.ne, h.inj⟩
theorem kept {W' : World} (h : OwnM W base eR eS g cap n m B C X) (hg : W.grownBy W' none) : OwnM W' base eR eS g cap n m B C X :=
  ⟨h.top.kept hg (.inr (by simp [Value.ownBlock])), fun i hi => (h.row i hi).kept hg (.inr (by simp [Value.ownBlock])), h.ne, h.inj⟩
theorem below {W' : World} (h : OwnM W base eR eS g cap n m B C X) (hb : Below W.heap.size W W') : OwnM W' base eR eS g cap n m B C X := h.kept (gr_below hb)
theorem congr (h : OwnM W base eR eS g cap n m B C X) (e : ∀ i, i < n → ∀ j, j < m → X i j = Y i j) : OwnM W base eR eS g cap n m B C Y :=
  ⟨h.top, fun i hi => by rw [← lst_congr (e i hi)]; exact h.row i hi, h.ne, h.inj⟩
/-- a store into a row -/
theorem setRow (h : OwnM W base eR eS g cap n m B C X) {i : Nat} (hi : i < n) (j : Nat) (v : Value) :
    OwnM (W.setCell ⟨B i, j, none⟩ v) base eR eS g cap n m B C (fun a b => if a = i ∧ b = j then v else X a b) := by
  obtain ⟨h1, h2⟩ := (h.row i hi).stored j v
  refine ⟨h.top.kept h2 (.inr (by simp [Value.ownBlock]; exact fun e => h.ne i hi e.symm)), fun a ha => ?_, h.ne, h.inj⟩
  by_cases e : a = i
  · subst e
    rw [lst_set] at h1
    rw [show lst m (fun b => if a = a ∧ b = j then v else X a b) = lst m (fun b => if b = j then v else X a b) from lst_congr fun b _ => by simp]
    exact h1
  · rw [show lst m (fun b => if a = i ∧ b = j then v else X a b) = lst m (X a) from lst_congr fun b _ => by simp [e]]
    exact (h.row a ha).kept h2 (.inr (by simp [Value.ownBlock]; exact fun e2 => e (h.inj a i ha hi e2)))
/-- two rows exchanged -/
theorem swap (h : OwnM W base eR eS g cap n m B C X) {a b : Nat} (ha : a < n) (hb : b < n) :
    OwnM ((W.setCell ⟨g, a, none⟩ (.slice (some ⟨B b, 0, none⟩) m (C b))).setCell ⟨g, b, none⟩ (.slice (some ⟨B a, 0, none⟩) m (C a))) base eR eS g cap n m
      (fun i => if i = a then B b else if i = b then B a else B i) (fun i => if i = a then C b else if i = b then C a else C i) (fun i => if i = a then X b else if i = b then X a else X i) := by
  obtain ⟨h1, h2⟩ := h.top.stored a (.slice (some ⟨B b, 0, none⟩) m (C b))
  obtain ⟨h3, h4⟩ := h1.stored b (.slice (some ⟨B a, 0, none⟩) m (C a))
  have hg := gr_trans h2 h4
  refine ⟨?_, ?_, ?_, ?_⟩
  · rw [lst_set, lst_set] at h3
    rw [show lst n (fun i => Value.slice (some ⟨if i = a then B b else if i = b then B a else B i, 0, none⟩) m (if i = a then C b else if i = b then C a else C i)) = lst n (fun i => if i = b then Value.slice (some ⟨B a, 0, none⟩) m (C a) else if i = a then Value.slice (some ⟨B b, 0, none⟩) m (C b) else Value.slice (some ⟨B i, 0, none⟩) m (C i)) from lst_congr fun i _ => by
      by_cases e1 : i = a
      · by_cases e2 : i = b
        · subst e1; subst e2; simp
        · simp [e1]
          intro e; subst e; exact absurd e1 e2
      · by_cases e2 : i = b
        · simp [e2]
          exact ⟨fun e => absurd (e2.trans e) e1, fun e => absurd (e2.trans e) e1⟩
        · simp [e1, e2]]
    exact h3
  · intro i hi
    have hr : ∀ k, k < n → ((W.setCell ⟨g, a, none⟩ (.slice (some ⟨B b, 0, none⟩) m (C b))).setCell ⟨g, b, none⟩ (.slice (some ⟨B a, 0, none⟩) m (C a))).ownsRow base eS 1 (.slice (some ⟨B k, 0, none⟩) m (C k)) m (lst m (X k)) := fun k hk => (h.row k hk).kept hg (.inr (by simp [Value.ownBlock]; exact h.ne k hk))
    by_cases e1 : i = a
    · simp only [if_pos e1]; exact hr b hb
    · by_cases e2 : i = b
      · simp only [if_neg e1, if_pos e2]; exact hr a ha
      · simp only [if_neg e1, if_neg e2]; exact hr i hi
  · intro i hi
    by_cases e1 : i = a
    · simp only [if_pos e1]; exact h.ne b hb
    · by_cases e2 : i = b
      · simp only [if_neg e1, if_pos e2]; exact h.ne a ha
      · simp only [if_neg e1, if_neg e2]; exact h.ne i hi
  · intro i j hi hj hij
    have key : ∀ x y, x < n → y < n → B x = B y → x = y := h.inj
    by_cases e1 : i = a
    · subst e1
      by_cases e3 : j = i
      · exact e3.symm
      · by_cases e4 : j = b
        · subst e4
          simp only [if_pos, if_neg e3] at hij
          exact (key j i hb ha hij).symm
        · simp only [if_pos, if_neg e3, if_neg e4] at hij
          exact absurd (key b j hb hj hij).symm e4
    · by_cases e2 : i = b
      · subst e2
        by_cases e3 : j = a
        · subst e3
          simp only [if_neg e1, if_pos] at hij
          exact (key j i ha hb hij).symm
        · by_cases e4 : j = i
          · exact e4.symm
          · simp only [if_neg e1, if_pos, if_neg e3, if_neg e4] at hij
            exact absurd (key a j ha hj hij).symm e3
      · by_cases e3 : j = a
        · subst e3
          simp only [if_neg e1, if_neg e2, if_pos] at hij
          exact absurd (key i b hi hb hij) e2
        · by_cases e4 : j = b
          · subst e4
            simp only [if_neg e1, if_neg e2, if_neg e3, if_pos] at hij
            exact absurd (key i a hi ha hij) e1
          · simp only [if_neg e1, if_neg e2, if_neg e3, if_neg e4] at hij
            exact key i j hi hj hij
end OwnM
/-- a row of strings as data -/
theorem rep_strs {W : World} {S : Nat → Nat → Prop} {base e : Nat} {v : Value} {n : Nat} {f : Nat → List UInt8} (h : W.ownsRow base e 1 v n (lst n fun i => .string ⟨(f i).toArray⟩)) (hl : ∀ i, i < n → (f i).length ≤ maxLen) (hS : ∀ b j, base ≤ b → b < W.heap.size → S b j) :
    Rep S W (.sl n (lst n fun i => .str (f i))) v := by
  rcases h.2 with ⟨rfl, h0⟩ | ⟨b, cap, cur, rfl, hbg, hg, hn, hc, _, _⟩
  · subst h0; exact .sl0 none 0 (Nat.zero_le _)
  · refine .sl n (lst n fun i => .str (f i)) b 0 cap (lst n fun i => .string ⟨(f i).toArray⟩) (by rw [lst_len, lst_len]) (fun d hd => ?_) hn hc (fun i u hu => ⟨hS b _ hbg (Array.getElem?_eq_some_iff.1 hg).1, ?_⟩) (fun i d u hd hu => ?_)
    · unfold lst at hd
      obtain ⟨x, _, rfl⟩ := List.mem_map.1 hd
      rfl
    · have hlt := (List.getElem?_eq_some_iff.1 hu).1
      rw [lst_len] at hlt
      rw [Nat.zero_add, h.cellAt i (by omega)]; exact hu
    · have hlt := (List.getElem?_eq_some_iff.1 hu).1
      rw [lst_len] at hlt
      rw [lst_at _ hlt] at hd hu
      cases hd; cases hu
      exact .str _ (hl i hlt)
/-- an own matrix of strings as data -/
theorem OwnM.rep {W : World} {S : Nat → Nat → Prop} {base eR eS g cap n m : Nat} {B C : Nat → Nat} {f : Nat → Nat → List UInt8} (h : OwnM W base eR eS g cap n m B C (fun i j => .string ⟨(f i j).toArray⟩)) (hl : ∀ i, i < n → ∀ j, j < m → (f i j).length ≤ maxLen) (hS : ∀ b j, base ≤ b → b < W.heap.size → S b j) :
    Rep S W (.sl n (lst n fun i => .sl m (lst m fun j => .str (f i j)))) (.slice (some ⟨g, 0, none⟩) n cap) := by
  rcases h.top.2 with ⟨h1, _⟩ | ⟨b, cap', cur, hv, hbg, hg, hn, hc, _, _⟩
  · simp at h1
  · simp only [Value.slice.injEq, Option.some.injEq, Addr.mk.injEq, and_true, true_and] at hv
    obtain ⟨rfl, rfl⟩ := hv
    refine .sl n _ g 0 cap (lst n fun i => .slice (some ⟨B i, 0, none⟩) m (C i)) (by rw [lst_len, lst_len]) (fun d hd => ?_) hn hc (fun i u hu => ⟨hS g _ hbg (Array.getElem?_eq_some_iff.1 hg).1, ?_⟩) (fun i d u hd hu => ?_)
    · unfold lst at hd
      obtain ⟨x, _, rfl⟩ := List.mem_map.1 hd
      rfl
    · have hlt := (List.getElem?_eq_some_iff.1 hu).1
      rw [lst_len] at hlt
      rw [Nat.zero_add, h.top.cellAt i (by omega)]; exact hu
    · have hlt := (List.getElem?_eq_some_iff.1 hu).1
      rw [lst_len] at hlt
      rw [lst_at _ hlt] at hd hu
      cases hd; cases hu
      exact rep_strs (h.row i hlt) (hl i hlt) hS
end Go.Pi
namespace Go.Pi
open Go Go.RowKit
/-- rows of different kinds lie in different blocks -/
theorem own_ne {w : World} {b1 b2 e1 e2 s1 s2 g1 g2 n1 n2 c1 c2 : Nat} {xs ys : List Value} (h1 : w.ownsRow b1 e1 s1 (.slice (some ⟨g1, 0, none⟩) n1 c1) n1 xs) (h2 : w.ownsRow b2 e2 s2 (.slice (some ⟨g2, 0, none⟩) n2 c2) n2 ys) (hne : e1 ≠ e2) : g1 ≠ g2 := by
  rintro rfl
  rcases h1.2 with ⟨h, _⟩ | ⟨g, cap, cur, h, _, hg, _⟩
  · simp at h
  · rcases h2.2 with ⟨h', _⟩ | ⟨g', cap', cur', h', _, hg', _⟩
    · simp at h'
    · simp only [Value.slice.injEq, Option.some.injEq, Addr.mk.injEq, and_true, true_and] at h h'
      obtain ⟨rfl, rfl⟩ := h
      obtain ⟨rfl, rfl⟩ := h'
      rw [hg] at hg'
      cases hg'
      exact hne rfl
/-- the first k rows of a matrix under way: the outer row may be nil -/
def OwnQ (W : World) (base eR eS : Nat) (v : Value) (k m : Nat) (B C : Nat → Nat) (X : Nat → Nat → Value) : Prop :=
  W.ownsRow base eR 1 v k (lst k fun i => .slice (some ⟨B i, 0, none⟩) m (C i)) ∧ (∀ i, i < k → W.ownsRow base eS 1 (.slice (some ⟨B i, 0, none⟩) m (C i)) m (lst m (X i))) ∧ (∀ i j, i < k → j < k → B i = B j → i = j)
theorem OwnQ.whole {W : World} {base eR eS n m : Nat} {v : Value} {B C : Nat → Nat} {X : Nat → Nat → Value} (h : OwnQ W base eR eS v n m B C X) (hn : 0 < n) (hne : eR ≠ eS) : ∃ g cap, v = .slice (some ⟨g, 0, none⟩) n cap ∧ OwnM W base eR eS g cap n m B C X := by
  obtain ⟨h1, h2, h3⟩ := h
  rcases h1.2 with ⟨_, h0⟩ | ⟨g, cap, cur, rfl, _⟩
  · omega
  · exact ⟨g, cap, rfl, h1, h2, fun i hi => (own_ne h1 (h2 i hi) hne).symm, h3⟩
end Go.Pi
namespace Go.Pi
open Go Go.RowKit
/-- one row more -/
theorem OwnQ.push {W W1 W2 : World} {base eR eS k m b1 c1 : Nat} {v v5 : Value} {B C : Nat → Nat} {X : Nat → Nat → Value} {r : Nat → Value} {ob : Obj}
    (h : OwnQ W base eR eS v k m B C X) (hne : eR ≠ eS) (hbase : base ≤ W.heap.size) (hb1 : Below W.heap.size W W1) (o1 : W1.ownsRow W.heap.size eS 1 (.slice (some ⟨b1, 0, none⟩) m c1) m (lst m r))
    (o5 : W2.ownsRow base eR 1 v5 (k + 1) ((lst k fun i => .slice (some ⟨B i, 0, none⟩) m (C i)) ++ [.slice (some ⟨b1, 0, none⟩) m c1])) (hg : (W1.alloc ob).grownBy W2 v.ownBlock) :
    OwnQ W2 base eR eS v5 (k + 1) m (fun i => if i = k then b1 else B i) (fun i => if i = k then c1 else C i) (fun i => if i = k then r else X i) := by
  obtain ⟨h1, h2, h3⟩ := h
  have hlt := o1.lt b1 rfl
  have hB : ∀ i, i < k → B i < W.heap.size := fun i hi => ((h2 i hi).lt (B i) rfl).2
  have hbn : ∀ i, i < k → v.ownBlock ≠ some (B i) := by
    intro i hi
    rcases h1.2 with ⟨rfl, _⟩ | ⟨g, cap, cur, rfl, _⟩
    · simp [Value.ownBlock]
    · simp only [Value.ownBlock, ne_eq, Option.some.injEq]
      exact own_ne h1 (h2 i hi) hne
  have hb1n : v.ownBlock ≠ some b1 := fun e => by have := (h1.lt b1 e).2; omega
  refine ⟨?_, ?_, ?_⟩
  · rw [lst_succ]
    simp only [if_pos]
    rw [lst_congr (g := fun i => Value.slice (some ⟨B i, 0, none⟩) m (C i)) (fun i hi => by rw [if_neg (by omega), if_neg (by omega)])]
    exact o5
  · intro i hi
    by_cases e : i = k
    · simp only [if_pos e]
      exact own_base ((o1.alloc ob).kept hg (.inr (by simp only [Value.ownBlock]; exact fun e => hb1n e.symm))) hbase
    · simp only [if_neg e]
      exact (((h2 i (by omega)).kept (gr_below (r := none) hb1) (.inr (by simp [Value.ownBlock]))).alloc ob).kept hg (.inr (by simp only [Value.ownBlock]; exact fun e => hbn i (by omega) e.symm))
  · intro i j hi hj hij
    by_cases e1 : i = k
    · by_cases e2 : j = k
      · omega
      · simp only [if_pos e1, if_neg e2] at hij
        have := hB j (by omega); omega
    · by_cases e2 : j = k
      · simp only [if_neg e1, if_pos e2] at hij
        have := hB i (by omega); omega
      · simp only [if_neg e1, if_neg e2] at hij
        exact h3 i j (by omega) (by omega) hij
end Go.Pi
namespace Go.Pi
open Go Go.RowKit
theorem World.grownBy.trans_own {W : World} {base e sz g n cap : Nat} {xs : List Value} (h : W.ownsRow base e sz (.slice (some ⟨g, 0, none⟩) n cap) n xs) (a b : Nat) (u v : Value) : W.grownBy ((W.setCell ⟨g, a, none⟩ u).setCell ⟨g, b, none⟩ v) (some g) := by
  obtain ⟨h1, h2⟩ := h.stored a u
  exact gr_trans h2 (h1.stored b v).2
end Go.Pi
namespace Go.Pi
open Go Go.RowKit
theorem own_ne' {w : World} {b1 b2 e1 e2 s1 s2 g2 n1 n2 c2 : Nat} {v : Value} {xs ys : List Value} (h1 : w.ownsRow b1 e1 s1 v n1 xs) (h2 : w.ownsRow b2 e2 s2 (.slice (some ⟨g2, 0, none⟩) n2 c2) n2 ys) (hne : e1 ≠ e2) : v.ownBlock ≠ some g2 := by
  rcases h1.2 with ⟨rfl, _⟩ | ⟨g, cap, cur, rfl, _⟩
  · simp [Value.ownBlock]
  · simp only [Value.ownBlock, ne_eq, Option.some.injEq]
    exact own_ne h1 h2 hne
end Go.Pi
namespace Go.Pi
open Go Go.RowKit
/-- a matrix, a list and a box under way, all of the call's own -/
structure OwnK (W0 W : World) (eR eS eI g cap n m : Nat) (B C : Nat → Nat) (X : Nat → Nat → Value) (v : Value) (k : Nat) (xs : List Value) (bx : Nat) (c : Int) : Prop where
  mat : OwnM W W0.heap.size eR eS g cap n m B C X
  ld : W.ownsRow W0.heap.size eI 1 v k xs
  bel : Below W0.heap.size W0 W
  box : W.heap[bx]? = some (.cells #[.int .i64 c] eI (0, 0))
namespace OwnK
variable {W0 W : World} {eR eS eI g cap n m : Nat} {B C : Nat → Nat} {X Y : Nat → Nat → Value} {v : Value} {k : Nat} {xs : List Value} {bx : Nat} {c : Int}
theorem boxLt (h : OwnK W0 W eR eS eI g cap n m B C X v k xs bx c) : bx < W.heap.size := (Array.getElem?_eq_some_iff.1 h.box).1
theorem neBox {w : World} {b1 e1 e2 s1 n1 c1 g1 : Nat} {ys : List Value} {arr : Array Value} (h : w.ownsRow b1 e1 s1 (.slice (some ⟨g1, 0, none⟩) n1 c1) n1 ys) (hb : w.heap[bx]? = some (.cells arr e2 (0, 0))) (hne : e1 ≠ e2) : bx ≠ g1 := by
  rintro rfl
  rcases h.2 with ⟨h, _⟩ | ⟨g, cap, cur, h, _, hg, _⟩
  · simp at h
  · simp only [Value.slice.injEq, Option.some.injEq, Addr.mk.injEq, and_true, true_and] at h
    obtain ⟨rfl, rfl⟩ := h
    rw [hg] at hb
    cases hb
    exact hne rfl
theorem drew (h : OwnK W0 W eR eS eI g cap n m B C X v k xs bx c) : OwnK W0 W.drew eR eS eI g cap n m B C X v k xs bx c := ⟨h.mat.drew, h.ld.drew, h.bel.drew, h.box⟩
theorem below {W' : World} (h : OwnK W0 W eR eS eI g cap n m B C X v k xs bx c) (hb : Below W.heap.size W W') : OwnK W0 W' eR eS eI g cap n m B C X v k xs bx c :=
  ⟨h.mat.below hb, h.ld.kept (gr_below (r := none) hb) (Classical.em _), h.bel.trans (hb.mono h.bel.size), (hb.block bx h.boxLt).trans h.box⟩
theorem congr (h : OwnK W0 W eR eS eI g cap n m B C X v k xs bx c) (e : ∀ i, i < n → ∀ j, j < m → X i j = Y i j) : OwnK W0 W eR eS eI g cap n m B C Y v k xs bx c :=
  ⟨h.mat.congr e, h.ld, h.bel, h.box⟩
theorem setRow (h : OwnK W0 W eR eS eI g cap n m B C X v k xs bx c) (h1 : eS ≠ eI) {i : Nat} (hi : i < n) (j : Nat) (u : Value) : OwnK W0 (W.setCell ⟨B i, j, none⟩ u) eR eS eI g cap n m B C (fun a b => if a = i ∧ b = j then u else X a b) v k xs bx c := by
  have hg := ((h.mat.row i hi).stored j u).2
  refine ⟨h.mat.setRow hi j u, h.ld.kept hg (.inr (own_ne' h.ld (h.mat.row i hi) h1.symm)), h.bel.setCell (h.mat.rowLt hi).1 u, ?_⟩
  rw [hg.block bx h.boxLt (by simp only [ne_eq, Option.some.injEq]; exact neBox (h.mat.row i hi) h.box h1)]
  exact h.box
theorem swap (h : OwnK W0 W eR eS eI g cap n m B C X v k xs bx c) (h1 : eR ≠ eI) {a b : Nat} (ha : a < n) (hb : b < n) :
    OwnK W0 ((W.setCell ⟨g, a, none⟩ (.slice (some ⟨B b, 0, none⟩) m (C b))).setCell ⟨g, b, none⟩ (.slice (some ⟨B a, 0, none⟩) m (C a))) eR eS eI g cap n m
      (fun i => if i = a then B b else if i = b then B a else B i) (fun i => if i = a then C b else if i = b then C a else C i) (fun i => if i = a then X b else if i = b then X a else X i) v k xs bx c := by
  have hg := World.grownBy.trans_own h.mat.top a b (.slice (some ⟨B b, 0, none⟩) m (C b)) (.slice (some ⟨B a, 0, none⟩) m (C a))
  refine ⟨h.mat.swap ha hb, h.ld.kept hg (.inr (own_ne' h.ld h.mat.top h1.symm)), h.bel.grown hg h.bel.size (fun k hk => by cases hk; exact h.mat.topLt.1), ?_⟩
  rw [hg.block bx h.boxLt (by simp only [ne_eq, Option.some.injEq]; exact neBox h.mat.top h.box h1)]
  exact h.box
end OwnK
end Go.Pi

/-
  WORLDS that differ in a set of blocks; boxes that hold own rows. Own work.
-/
namespace Go.Pi
open Go Go.RowKit

/-- the second world is the first one, but for the blocks of X and new ones -/
structure GrX (X : Nat → Prop) (w w' : World) : Prop where
  os : w'.os = w.os
  tape : w'.tape = w.tape
  output : w'.output = w.output
  size : w.heap.size ≤ w'.heap.size
  block : ∀ k, k < w.heap.size → ¬X k → w'.heap[k]? = w.heap[k]?
namespace GrX
variable {X Y : Nat → Prop} {w w1 w2 w' : World}
theorem refl (X : Nat → Prop) (w : World) : GrX X w w := ⟨rfl, rfl, rfl, Nat.le_refl _, fun _ _ _ => rfl⟩
theorem trans (h : GrX X w w1) (k : GrX Y w1 w2) (hY : ∀ b, Y b → X b ∨ w.heap.size ≤ b) : GrX X w w2 :=
  ⟨k.os.trans h.os, k.tape.trans h.tape, k.output.trans h.output, Nat.le_trans h.size k.size, fun b hb hx => (k.block b (Nat.lt_of_lt_of_le hb h.size) fun hy => (hY b hy).elim hx (fun hh => by omega)).trans (h.block b hb hx)⟩
theorem mono (h : GrX X w w') (hX : ∀ b, X b → Y b ∨ w.heap.size ≤ b) : GrX Y w w' :=
  ⟨h.os, h.tape, h.output, h.size, fun b hb hy => h.block b hb fun hx => (hX b hx).elim hy (fun hh => by omega)⟩
theorem ofGrown {r : Option Nat} (h : w.grownBy w' r) : GrX (fun b => some b = r) w w' := ⟨h.os, h.tape, h.output, h.size, h.block⟩
theorem ofBelow (h : Below w.heap.size w w') : GrX X w w' := ⟨h.os, h.tape, h.output, h.size, fun b hb _ => h.block b hb⟩
theorem alloc (w : World) (o : Obj) : GrX X w (w.alloc o) := (ofGrown (World.grownBy_alloc w o none)).mono (fun b hb => by cases hb)
theorem below (h : GrX X w w') {W0 : World} {B : Nat} (hb : Below B W0 w) (hX : ∀ b, X b → B ≤ b) (hB : B ≤ w.heap.size) : Below B W0 w' :=
  ⟨h.os.trans hb.os, h.tape.trans hb.tape, h.output.trans hb.output, Nat.le_trans hb.size h.size, fun b hk => (h.block b (by omega) fun hx => by have := hX b hx; omega).trans (hb.block b hk)⟩
theorem own (h : GrX X w w') {base e sz n : Nat} {v : Value} {xs : List Value} (ho : w.ownsRow base e sz v n xs) (hn : ∀ g, v.ownBlock = some g → ¬X g) : w'.ownsRow base e sz v n xs := by
  rcases ho.2 with ⟨h1, h2⟩ | ⟨g, cap, cur, h1, hbg, hg, h2, h3, h4, h5⟩
  · exact ⟨ho.1, .inl ⟨h1, h2⟩⟩
  · subst h1
    exact ⟨ho.1, .inr ⟨g, cap, cur, rfl, hbg, (h.block g (Array.getElem?_eq_some_iff.1 hg).1 (hn g rfl)).trans hg, h2, h3, h4, h5⟩⟩
theorem cell (h : GrX X w w') {a : Addr} (hl : a.block < w.heap.size) (hn : ¬X a.block) : w'.cell? a = w.cell? a := by
  unfold World.cell?
  rw [h.block a.block hl hn]
end GrX
/-- a box that holds a value of one cell -/
def Box1 (w : World) (b e : Nat) (v : Value) : Prop := w.heap[b]? = some (.cells #[v] e (0, 0))
namespace Box1
variable {w w' : World} {b e : Nat} {v u : Value}
theorem lt (h : Box1 w b e v) : b < w.heap.size := (Array.getElem?_eq_some_iff.1 h).1
theorem cell (h : Box1 w b e v) : w.cell? ⟨b, 0, none⟩ = some v := by rw [Lib.cell_of_heap h]; rfl
theorem frozen (h : Box1 w b e v) : w.frozen? ⟨b, 0, none⟩ = false := by
  unfold World.frozen?
  rw [show w.heap[(⟨b, 0, none⟩ : Addr).block]? = some (.cells #[v] e (0, 0)) from h]
  rfl
theorem kept {X : Nat → Prop} (h : Box1 w b e v) (g : GrX X w w') (hn : ¬X b) : Box1 w' b e v := (g.block b h.lt hn).trans h
theorem put (h : Box1 w b e v) (u : Value) : Box1 (w.setCell ⟨b, 0, none⟩ u) b e u ∧ GrX (fun k => k = b) w (w.setCell ⟨b, 0, none⟩ u) := by
  exact ⟨heap_setCell_same w b 0 #[v] e u h, ⟨rfl, rfl, rfl, by simp, fun k _ hk => heap_setCell_other w ⟨b, 0, none⟩ k u (fun e => hk (by simp [e]))⟩⟩
theorem drew (h : Box1 w b e v) : Box1 w.drew b e v := h
theorem ne_own {base e2 sz n : Nat} {v2 : Value} {xs : List Value} (h : Box1 w b e v) (ho : w.ownsRow base e2 sz v2 n xs) (hne : e2 ≠ e) : v2.ownBlock ≠ some b := by
  rcases ho.2 with ⟨rfl, _⟩ | ⟨g, cap, cur, rfl, _, hg, _⟩
  · simp [Value.ownBlock]
  · simp only [Value.ownBlock, ne_eq, Option.some.injEq]
    rintro rfl
    rw [h] at hg
    cases hg
    exact hne rfl
end Box1
end Go.Pi
