/-
 OWN MATRICES: what is returned; the list of leading columns grows. Own work.
-/
import Derived.Test.YtbcehhemdapjlaaGreatDoorEh
import Derived.Test.YtbcehhemdapjlaaGreatDoorEb
set_option linter.unusedVariables false
set_option linter.unusedSimpArgs false
namespace Go.Pi
open Go Go.RowKit Go.Mx Go.Ar

/-- own numbers of columns as data -/
theorem rep_nats {W : World} {S : Nat → Nat → Prop} {base e : Nat} {v : Value} {l : List Nat} (h : W.ownsRow base e 1 v l.length (l.map fun x : Nat => .int .i64 x)) (hS : ∀ b j, base ≤ b → b < W.heap.size → S b j) :
  Rep S W (.sl l.length (l.map fun x : Nat => .int .i64 x)) v := by
 rcases h.2 with ⟨rfl, h0⟩ | ⟨b, cap, cur, rfl, hbg, hg, hn, hc, _, _⟩
 ·rw [List.length_eq_zero_iff.1 h0]; exact .sl0 none 0 (Nat.zero_le _)
 ·refine .sl _ _ b 0 cap (l.map fun x : Nat => .int .i64 x) (by simp) (fun d hd => ?_) hn hc (fun i u hu => ⟨hS b _ hbg (Array.getElem?_eq_some_iff.1 hg).1, ?_⟩) (fun i d u hd hu => ?_)
  ·obtain ⟨x, _, rfl⟩ := List.mem_map.1 hd
   rfl
  ·have hlt := (List.getElem?_eq_some_iff.1 hu).1
   rw [List.length_map] at hlt
   rw [Nat.zero_add, h.cellAt i (by omega)]; exact hu
  ·rw [List.getElem?_map] at hd hu
   cases hl : l[i]? with
   | none => rw [hl] at hd; cases hd
   | some x => rw [hl] at hd hu; cases hd; cases hu; exact .int _ _
namespace OwnK
variable {W0 W : World} {eR eS eI g cap n m : Nat} {B C : Nat → Nat} {X Y : Nat → Nat → Value} {v : Value} {k : Nat} {xs : List Value} {bx : Nat} {c : Int}
theorem grown {W2 : World} {ob : Obj} (h : OwnK W0 W eR eS eI g cap n m B C X v k xs bx c) (h1 : eR ≠ eI) (h2 : eS ≠ eI) (hg : (W.alloc ob).grownBy W2 v.ownBlock) :
  OwnM W2 W0.heap.size eR eS g cap n m B C X ∧ Below W0.heap.size W0 W2 := by
 have ha : OwnM (W.alloc ob) W0.heap.size eR eS g cap n m B C X := h.mat.kept (World.grownBy_alloc W ob none)
 have e1 := own_ne' h.ld h.mat.top h1.symm
 have e2 : ∀ i, i < n → v.ownBlock ≠ some (B i) := fun i hi => own_ne' h.ld (h.mat.row i hi) h2.symm
 refine ⟨⟨ha.top.kept hg (.inr (by simp only [Value.ownBlock]; exact fun e => e1 e.symm)), fun i hi => (ha.row i hi).kept hg (.inr (by simp only [Value.ownBlock]; exact fun e => e2 i hi e.symm)), h.mat.ne, h.mat.inj⟩, ?_⟩
 exact (h.bel.alloc h.bel.size _).grown hg (by have := h.bel.size; simp; omega) (fun k hk => (h.ld.lt k hk).1)
end OwnK
/-- the three results of an elimination -/
theorem res_red {P : Program} {S : Nat → Nat → Prop} {W W' : World} {eR eS eI g cap n m : Nat} {B C : Nat → Nat} {f : Nat → Nat → List UInt8} {v : Value} {l : List Nat} {q : List UInt8}
  (h : OwnM W' W.heap.size eR eS g cap n m B C (fun i j => .string ⟨(f i j).toArray⟩)) (hl : W'.ownsRow W.heap.size eI 1 v l.length (l.map fun x : Nat => .int .i64 x)) (hf : ∀ i, i < n → ∀ j, j < m → (f i j).length ≤ maxLen) (hq : q.length ≤ maxLen) :
  Res P S W W' (.tup [.sl n (lst n fun i => .sl m (lst m fun j => .str (f i j))), .sl l.length (l.map fun x : Nat => .int .i64 x), .str q]) (.tuple #[.slice (some ⟨g, 0, none⟩) n cap, v, .string ⟨q.toArray⟩]) := by
 refine .tup _ [_, _, _] rfl ?_
 intro i d u hd hu
 match i with
 | 0 => cases hd; cases hu; exact h.rep hf fun _ _ h1 h2 => .inr ⟨h1, h2⟩
 | 1 => cases hd; cases hu; exact rep_nats hl fun _ _ h1 h2 => .inr ⟨h1, h2⟩
 | 2 => cases hd; cases hu; exact .str q hq
 | k + 3 => simp at hd
end Go.Pi
namespace Go.Mx
/-- with all rows leading nothing changes any more -/
theorem red_full {n : Nat} {F : Mtx} {w : Nat} (h : (redM n F w).lead.length = n) : ∀ d, (redM n F (w + d)).F = (redM n F w).F ∧ (redM n F (w + d)).lead = (redM n F w).lead ∧ (redM n F (w + d)).fac = (redM n F w).fac
 | 0 => ⟨rfl, rfl, rfl⟩
 | d + 1 => by
   obtain ⟨h1, h2, h3⟩ := red_full h d
   have e : redM n F (w + (d + 1)) = { redM n F (w + d) with gap := true } := by
    show stpM n (redM n F (w + d)) (w + d) = _
    exact stp_full (by rw [h2]; exact h)
   rw [e]; exact ⟨h1, h2, h3⟩
end Go.Mx
