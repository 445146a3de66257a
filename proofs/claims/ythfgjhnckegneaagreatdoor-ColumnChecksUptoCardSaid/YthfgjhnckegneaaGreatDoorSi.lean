/-
  SEAT 22: relations: Check, the first one with a property, Consistent. Own work.
-/
import Derived.Test.YthfgjhnckegneaaGreatDoorPj
import Derived.Test.YthfgjhnckegneaaGreatDoorSh
namespace Go.Proofs
open Go Go.Pi Go.RowKit

/-- a relation -/
structure Rl where
  k : Int
  u : List UInt8
  o : List UInt8
def Rl.d (x : Rl) : List D := [.int .i64 x.k, .str x.u, .str x.o]
abbrev rls (l : List Rl) : List D := rows Rl.d l
theorem Rl.d_len (x : Rl) : x.d.length = 3 := rfl

theorem ldC_rls {l : List Rl} {k t : Nat} {N : EP} {E : Env} : ldC true 3 (List.take 3 (List.drop (k * 3) (rls l))) t N E = (∃ x, l[k]? = some x ∧ N (st1 E t (.agg x.d))) := by
  unfold ldC
  cases h : l[k]? with
  | none =>
    have hk : l.length ≤ k := by simpa using h
    have e : List.take 3 (List.drop (k * 3) (rls l)) = [] := by rw [List.drop_eq_nil_of_le (by rw [rows_length Rl.d_len]; omega)]; rfl
    rw [e]; simp [ofCells]
  | some x =>
    obtain ⟨r, e⟩ := rows_at Rl.d_len h
    have e2 : List.take 3 (List.drop (k * 3) (rls l)) = x.d := by rw [e]; rfl
    rw [e2]
    simp [ofCells, Rl.d]

theorem Tryz.c31 {f : Nat} {caps : List D} (p : Rl → Bool) (l : List Rl) (hl : l.length ≤ 1000) (h : ∀ x ∈ l, Con Tryz.prog Tryz.L f ([.agg x.d] ++ caps) (.bool (p x))) :
    Con Tryz.prog Tryz.L 31 [.sl l.length (rls l), .clo f caps] (.int .i64 (idx p l)) := by
  refine rule31 Tryz.hL rfl rfl rfl ?_
  (simp only [pc31, rs31]; refine ev0 ?_; try with_reducible exact trivial)
  refine loopF_of (fun E => ∃ k : Nat, k ≤ l.length ∧ idx p l = idxA p (l.drop k) k ∧ E = [(0, .sl l.length (rls l)), (1, .clo f caps), (7, .int .i64 l.length), (8, .int .i64 k)])
    (fun E => match lk E 8 with | .int _ i => l.length - i.toNat | _ => 0) ⟨0, Nat.zero_le _, rfl, rfl⟩ ?_
  rintro _ ⟨k, hk, hi, rfl⟩
  simp only [evA, evB, evC, forall_const, implies_true, initE, stepF, D.clean, mvF, moF, tkF, shF, ariF, ciF, catF, scF, ebF, eqF, eqOk, eqPr, enF, notF, ngF, cvF, csF, csbF, lenF, lenSF, ixF, iaF, PX.slot, iaAF, faF, ldF, D.mem, stF, bxF, mkSF, boundF, fldF, mmF2, D.plain, D.isPure, optAll, D.dull, callVF, splice, D.cells, D.one, sets, resT, D.flat, D.flat0, D.simple, Nat.reduceBNe, Nat.reduceLT, reduceIte, Nat.reduceEqDiff, Nat.reduceAdd, Nat.reduceMul, Nat.reduceSub, Nat.reduceLeDiff, Int.reduceToNat, Int.reduceLT, Int.reduceLE, Int.reduceEq, Int.reduceNeg, Int.reduceSub, Int.reduceAdd, Int.reduceMul, ldC_rls]
  refine ⟨fun h1 => ?_, fun h1 => ?_⟩
  · have hx : l[k]? = some (l[k]'(by omega)) := List.getElem?_eq_getElem (by omega)
    generalize l[k]'(by omega) = x at hx
    have hd := drop_cons hx
    refine ⟨⟨by omega, by rw [rows_length Rl.d_len]; omega⟩, x, hx, ?_⟩
    refine callF_of (h x (List.mem_of_getElem? hx)) ?_
    (refine ev0 ?_; try with_reducible exact trivial)
    rw [hd] at hi
    simp only [idxA] at hi
    cases hp : p x with
    | true =>
      (refine ev0 ?_; try with_reducible exact trivial)
      rw [hi, hp]; rfl
    | false =>
      (refine ev0 ?_; try with_reducible exact trivial)
      have hi2 : idx p l = idxA p (l.drop (k + 1)) (k + 1) := by rw [hi, hp]; rfl
      refine ⟨by omega, ⟨k + 1, by omega, hi2, rfl⟩, by omega⟩
  · have : k = l.length := by omega
    subst this
    rw [hi]; simp [idxA]

theorem Tryz.c27 {f : Nat} {caps : List D} (p : Rl → Bool) (l : List Rl) (hl : l.length ≤ 1000) (h : ∀ x ∈ l, Con Tryz.prog Tryz.L f ([.agg x.d] ++ caps) (.bool (p x))) :
    Con Tryz.prog Tryz.L 27 [.sl l.length (rls l), .clo f caps] (.bool (dB (0 ≤ idx p l))) := by
  refine rule27 Tryz.hL rfl rfl rfl ?_
  (simp only [pc27, rs27]; refine ev0 ?_; try with_reducible exact trivial)
  refine callF_of (Tryz.c31 p l hl h) ?_
  (refine ev0 ?_; try with_reducible exact trivial)

def Rl.long (x : Rl) : Bool := decide (40 < x.u.length) || decide (40 < x.o.length)
theorem Tryz.c28 (x : Rl) : Con Tryz.prog Tryz.L 28 ([.agg x.d] ++ []) (.bool x.long) := by
  refine rule28 Tryz.hL rfl rfl rfl ?_
  ((try simp only [pc28, rs28, Rl.d]); refine ev0 ?_; try with_reducible exact trivial)
  refine ⟨fun h => ?_, fun h => ?_⟩
  · rw [Bool.eq_iff_iff, dB_iff]; simp [Rl.long]; omega
  · simp [Rl.long]; omega

/-- relation.Check -/
def Rl.chk (x : Rl) : Int := if x.k < 1 ∨ 4 < x.k then 12 else if nm x.u = false ∨ nm x.o = false then 8 else if x.u = x.o then 14 else 0
theorem Tryz.c30 (x : Rl) : Con Tryz.prog Tryz.L 30 [.agg x.d] (.int .i64 x.chk) := by
  refine rule30 Tryz.hL rfl rfl rfl ?_
  ((try simp only [pc30, rs30, Rl.d]); refine ev0 ?_; try with_reducible exact trivial)
  refine ⟨fun h1 => ⟨fun h2 => by rw [Rl.chk, if_pos (Or.inr h2)], fun h2 => ?_⟩, fun h1 => by rw [Rl.chk, if_pos (Or.inl h1)]⟩
  have e0 : x.chk = if nm x.u = false ∨ nm x.o = false then 8 else if x.u = x.o then 14 else 0 := by rw [Rl.chk, if_neg (by omega)]
  refine callF_of (Tryz.c68g x.u) ?_
  cases hu : nm x.u with
  | false =>
    (refine ev0 ?_; try with_reducible exact trivial)
    rw [e0, if_pos (Or.inl hu)]
  | true =>
    (refine ev0 ?_; try with_reducible exact trivial)
    refine callF_of (Tryz.c68g x.o) ?_
    cases ho : nm x.o with
    | false =>
      (refine ev0 ?_; try with_reducible exact trivial)
      rw [e0, if_pos (Or.inr ho)]
    | true =>
      (refine ev0 ?_; try with_reducible exact trivial)
      rw [hu, ho] at e0
      rw [if_neg (by simp)] at e0
      refine ⟨fun h => ?_, fun h => ?_⟩
      · rw [e0]; simp_all
      · rw [e0]; simp_all

theorem Tryz.c59 (x : Lay) (u : List UInt8) : Con Tryz.prog Tryz.L 59 ([.agg x.d] ++ [.pt [.str u]]) (.bool (x.u == u)) := by
  refine rule59 Tryz.hL rfl rfl rfl ?_
  ((try simp only [pc59, rs59, Lay.d]); refine ev0 ?_; try with_reducible exact trivial)
  rw [Bool.eq_iff_iff, dB_iff]; simp

theorem Tryz.c20 (l : List Lay) (u : List UInt8) (hl : l.length ≤ 1000) : Con Tryz.prog Tryz.L 20 [.sl l.length (lays l), .str u] (.int .i64 (idx (fun x => x.u == u) l)) := by
  refine rule20 Tryz.hL rfl rfl rfl ?_
  (simp only [pc20, rs20]; refine ev0 ?_; try with_reducible exact trivial)
  refine callF_of (Tryz.c58 _ l hl fun x _ => Tryz.c59 x u) ?_
  (refine ev0 ?_; try with_reducible exact trivial)

/-- the relation contradicts the column -/
def Rl.bad (l : List Lay) (x : Rl) : Bool := decide (x.k ≠ 4 ∧ 0 ≤ idx (fun y => y.u == x.u) l ∧ 0 ≤ idx (fun y => y.u == x.o) l ∧ idx (fun y => y.u == x.u) l ≤ idx (fun y => y.u == x.o) l)
theorem Tryz.c32 (l : List Lay) (hl : l.length ≤ 1000) (x : Rl) : Con Tryz.prog Tryz.L 32 ([.agg x.d] ++ [.pt [.sl l.length (lays l)]]) (.bool (x.bad l)) := by
  refine rule32 Tryz.hL rfl rfl rfl ?_
  ((try simp only [pc32, rs32, Rl.d]); refine ev0 ?_; try with_reducible exact trivial)
  refine callF_of (Tryz.c20 l x.u hl) ?_
  (refine ev0 ?_; try with_reducible exact trivial)
  refine callF_of (Tryz.c20 l x.o hl) ?_
  (refine ev0 ?_; try with_reducible exact trivial)
  unfold Rl.bad
  generalize idx (fun y => y.u == x.u) l = i
  generalize idx (fun y => y.u == x.o) l = j
  generalize x.k = k
  repeat' first
    | intro _
    | (symm; apply decide_eq_true; omega)
    | (symm; apply decide_eq_false; omega)
    | (rw [Bool.eq_iff_iff, dB_iff, decide_eq_true_iff]; omega)
    | apply And.intro
end Go.Proofs

/-
  SEAT 22: Consistent; ColumnRelations. Own work.
-/
namespace Go.Proofs
open Go Go.Pi Go.RowKit

/-- what a function has made reads as a plain slice -/
theorem Con.plain {P : Program} {L : World → Prop} {f : FuncId} {ds : List D} {wr : Bool} {e m : Nat} {cs : List D} (h : Con P L f ds (.own wr e m cs)) : Con P L f ds (.sl m cs) := by
  refine ⟨⟨h.1.1, rfl⟩, fun S w vs hS hL hv => ((h.2 S w vs hS hL hv).mono ?_)⟩
  rintro e1 w' ⟨v, rfl, hb, ob, h1, h2⟩
  refine ⟨v, rfl, hb, ?_⟩
  show Rep _ w' (.sl m cs) v
  simp only [OwnR] at h2
  rcases h2 with ⟨_, rfl, rfl, rfl⟩ | ⟨b, cap, arr, rfl, rfl, h3, h4, h5, h6, h7, h8, h9, h10, h11⟩
  · exact .sl0 none 0 (Nat.zero_le _)
  · have h8' := h8.mono (S' := fun b j => S b j ∨ (w.heap.size ≤ b ∧ b < w'.heap.size)) (w' := w') (fun b o hh => hh.elim .inl fun hh => .inr ⟨hh.1, hh.2.1⟩) (fun _ _ _ => rfl)
    refine .sl m cs b 0 cap _ h8'.1 h9 h4 h5 ?_ h8'.2
    rw [← h7]
    exact Row.ofBlock h3 (fun j hj => .inr (h1 b rfl))

/-- the first error of a list of relations -/
def errA : List Rl → Int
  | [] => 0
  | x :: r => if x.chk ≠ 0 then x.chk else errA r
def consK (l : List Lay) (r : List Rl) : Int := if errA r ≠ 0 then 0 else if idx (Rl.bad l) r < 0 then 0 else idx (Rl.bad l) r
def consB (l : List Lay) (r : List Rl) : Bool := decide (errA r = 0 ∧ idx (Rl.bad l) r < 0)

theorem idxA_small {α : Type} {p : α → Bool} : ∀ {l : List α} {k : Nat}, idxA p l k = -1 ∨ ((k : Int) ≤ idxA p l k ∧ idxA p l k < k + l.length)
  | [], _ => .inl rfl
  | x :: l, k => by
    simp only [idxA]
    split
    · right; simp only [List.length_cons]; omega
    · rcases idxA_small (p := p) (l := l) (k := k + 1) with h | h
      · exact .inl h
      · right; simp only [List.length_cons]; omega

theorem Tryz.c29 (l : List Lay) (r : List Rl) (hl : l.length ≤ 1000) (hr : r.length ≤ 1000) (hc : Con Tryz.prog Tryz.L 45 [.sl l.length (lays l)] (.int .i64 0)) :
    Con Tryz.prog Tryz.L 29 [.sl l.length (lays l), .sl r.length (rls r)] (.tup [.int .i64 (consK l r), .bool (consB l r), .int .i64 (errA r)]) := by
  refine rule29 Tryz.hL rfl rfl rfl ?_
  (simp only [pc29, rs29]; refine ev0 ?_; try with_reducible exact trivial)
  refine callF_of hc ?_
  (refine ev0 ?_; try with_reducible exact trivial)
  refine loopF_of (fun E => ∃ k : Nat, k ≤ r.length ∧ errA r = errA (r.drop k) ∧ E = [(0, .sl l.length (lays l)), (1, .sl r.length (rls r)), (20, .sl r.length (rls r)), (21, .int .i64 r.length), (22, .int .i64 k)])
    (fun E => match lk E 22 with | .int _ i => r.length - i.toNat | _ => 0) ⟨0, Nat.zero_le _, rfl, rfl⟩ ?_
  rintro _ ⟨k, hk, hi, rfl⟩
  simp only [evA, evB, evC, forall_const, implies_true, initE, stepF, D.clean, mvF, moF, tkF, shF, ariF, ciF, catF, scF, ebF, eqF, eqOk, eqPr, enF, notF, ngF, cvF, csF, csbF, lenF, lenSF, ixF, iaF, PX.slot, iaAF, faF, ldF, D.mem, stF, bxF, mkSF, boundF, fldF, mmF2, D.plain, D.isPure, optAll, D.dull, callVF, splice, D.cells, D.one, sets, resT, D.flat, D.flat0, D.simple, Nat.reduceBNe, Nat.reduceLT, reduceIte, Nat.reduceEqDiff, Nat.reduceAdd, Nat.reduceMul, Nat.reduceSub, Nat.reduceLeDiff, Int.reduceToNat, Int.reduceLT, Int.reduceLE, Int.reduceEq, Int.reduceNeg, Int.reduceSub, Int.reduceAdd, Int.reduceMul, ldC_rls]
  refine ⟨fun h1 => ?_, fun h1 => ?_⟩
  · have hx : r[k]? = some (r[k]'(by omega)) := List.getElem?_eq_getElem (by omega)
    generalize r[k]'(by omega) = x at hx
    rw [drop_cons hx] at hi
    simp only [errA] at hi
    refine ⟨⟨by omega, by rw [rows_length Rl.d_len]; omega⟩, x, hx, ?_⟩
    have h30 := Tryz.c30 x
    simp only [Rl.d, evA, evB, evC, forall_const, implies_true, initE, stepF, D.clean, mvF, moF, tkF, shF, ariF, ciF, catF, scF, ebF, eqF, eqOk, eqPr, enF, notF, ngF, cvF, csF, csbF, lenF, lenSF, ixF, iaF, PX.slot, iaAF, faF, ldF, D.mem, stF, bxF, mkSF, boundF, fldF, mmF2, D.plain, D.isPure, optAll, D.dull, callVF, splice, D.cells, D.one, sets, resT, D.flat, D.flat0, D.simple, Nat.reduceBNe, Nat.reduceLT, reduceIte, Nat.reduceEqDiff, Nat.reduceAdd, Nat.reduceMul, Nat.reduceSub, Nat.reduceLeDiff, Int.reduceToNat, Int.reduceLT, Int.reduceLE, Int.reduceEq, Int.reduceNeg, Int.reduceSub, Int.reduceAdd, Int.reduceMul] at h30 ⊢
    refine callF_of h30 ?_
    (refine ev0 ?_; try with_reducible exact trivial)
    refine ⟨fun h => ?_, fun h => ⟨by omega, ⟨k + 1, by omega, ?_, rfl⟩, by omega⟩⟩
    · rw [if_pos h] at hi
      have e1 : consK l r = 0 := by unfold consK; rw [if_pos (by rw [hi]; exact h)]
      have e2 : consB l r = false := by unfold consB; exact decide_eq_false fun h' => h (hi ▸ h'.1)
      rw [e1, e2, hi]; rfl
    · rw [hi, if_neg h]
  · have : k = r.length := by omega
    subst this
    rw [List.drop_length] at hi
    simp only [errA] at hi
    clear h1 hk
    have eK : consK l r = if idx (Rl.bad l) r < 0 then 0 else idx (Rl.bad l) r := by unfold consK; rw [if_neg (by omega)]
    have eB : consB l r = decide (idx (Rl.bad l) r < 0) := by unfold consB; rw [hi]; simp
    refine loopF_of (fun E => ∃ k : Nat, k ≤ r.length ∧ idx (Rl.bad l) r = idxA (Rl.bad l) (r.drop k) k ∧ E = [(0, .sl l.length (lays l)), (32, .sl r.length (rls r)), (33, .int .i64 r.length), (34, .int .i64 k)])
      (fun E => match lk E 34 with | .int _ i => r.length - i.toNat | _ => 0) ⟨0, Nat.zero_le _, rfl, rfl⟩ ?_
    rintro _ ⟨k, hk, hj, rfl⟩
    simp only [evA, evB, evC, forall_const, implies_true, initE, stepF, D.clean, mvF, moF, tkF, shF, ariF, ciF, catF, scF, ebF, eqF, eqOk, eqPr, enF, notF, ngF, cvF, csF, csbF, lenF, lenSF, ixF, iaF, PX.slot, iaAF, faF, ldF, D.mem, stF, bxF, mkSF, boundF, fldF, mmF2, D.plain, D.isPure, optAll, D.dull, callVF, splice, D.cells, D.one, sets, resT, D.flat, D.flat0, D.simple, Nat.reduceBNe, Nat.reduceLT, reduceIte, Nat.reduceEqDiff, Nat.reduceAdd, Nat.reduceMul, Nat.reduceSub, Nat.reduceLeDiff, Int.reduceToNat, Int.reduceLT, Int.reduceLE, Int.reduceEq, Int.reduceNeg, Int.reduceSub, Int.reduceAdd, Int.reduceMul, ldC_rls]
    refine ⟨fun h1 => ?_, fun h1 => ?_⟩
    · have hx : r[k]? = some (r[k]'(by omega)) := List.getElem?_eq_getElem (by omega)
      generalize r[k]'(by omega) = x at hx
      rw [drop_cons hx] at hj
      simp only [idxA] at hj
      refine ⟨⟨by omega, by rw [rows_length Rl.d_len]; omega⟩, x, hx, ?_⟩
      ((try simp only [Rl.d]); refine ev0 ?_; try with_reducible exact trivial)
      refine callF_of (Tryz.c56 l x.u hl) ?_
      (refine ev0 ?_; try with_reducible exact trivial)
      refine callF_of (Tryz.c56 l x.o hl) ?_
      (refine ev0 ?_; try with_reducible exact trivial)
      have yes : x.bad l = true → consK l r = k ∧ consB l r = false := fun h => by
        rw [if_pos h] at hj
        rw [eK, eB, hj, if_neg (by omega)]
        exact ⟨rfl, decide_eq_false (by omega)⟩
      have no : x.bad l = false → idx (Rl.bad l) r = idxA (Rl.bad l) (r.drop (k + 1)) (k + 1) := fun h => by rw [hj, h]; rfl
      have fin : x.bad l = false → (-9223372036854775808 ≤ (k : Int) + 1 ∧ (k : Int) + 1 ≤ 9223372036854775807) ∧
          (∃ k1 : Nat, k1 ≤ r.length ∧ idx (Rl.bad l) r = idxA (Rl.bad l) (List.drop k1 r) k1 ∧ (34, D.int IntKind.i64 ((k : Int) + 1)) = (34, D.int IntKind.i64 k1)) ∧ r.length - ((k : Int) + 1).toNat < r.length - k := fun h => ⟨by omega, ⟨k + 1, by omega, no h, rfl⟩, by omega⟩
      clear hj no
      unfold Rl.bad at yes fin
      generalize idx (fun y => y.u == x.u) l = i at yes fin ⊢
      generalize idx (fun y => y.u == x.o) l = j at yes fin ⊢
      generalize x.k = q at yes fin ⊢
      repeat' first
        | intro _
        | exact fin (decide_eq_false (by omega))
        | (obtain ⟨e1, e2⟩ := yes (decide_eq_true (by omega)); rw [e1, e2, hi]; rfl)
        | apply And.intro
    · have : k = r.length := by omega
      subst this
      rw [List.drop_length] at hj
      simp only [idxA] at hj
      rw [eK, eB, hi, hj]; rfl
end Go.Proofs

/-
  SEAT 22: two units of a column: Index, Younger, Surfaces. Own work.
-/
namespace Go.Proofs
open Go Go.Pi Go.RowKit

/-- the place of a unit, or -1 -/
abbrev pos (l : List Lay) (u : List UInt8) : Int := idx (fun x => x.u == u) l

theorem pos_lo {l : List Lay} {u : List UInt8} : -1 ≤ pos l u ∧ pos l u < l.length ∨ pos l u = -1 := by
  rcases idxA_small (p := fun x : Lay => x.u == u) (l := l) (k := 0) with h | h
  · exact .inr h
  · exact .inl ⟨by show -1 ≤ idxA _ l 0; omega, by show idxA _ l 0 < _; omega⟩

theorem Tryz.c56p (l : List Lay) (u : List UInt8) (hl : l.length ≤ 1000) : Con Tryz.prog Tryz.L 56 [.sl l.length (lays l), .str u] (.int .i64 (pos l u)) := Tryz.c56 l u hl
theorem Tryz.c20p (l : List Lay) (u : List UInt8) (hl : l.length ≤ 1000) : Con Tryz.prog Tryz.L 20 [.sl l.length (lays l), .str u] (.int .i64 (pos l u)) := Tryz.c20 l u hl

/-- both -/
def bothE (i j : Int) : Int := if i < 0 ∨ j < 0 then 10 else 0
theorem Tryz.c60 (l : List Lay) (a b : List UInt8) (hl : l.length ≤ 1000) (hc : Con Tryz.prog Tryz.L 45 [.sl l.length (lays l)] (.int .i64 0)) :
    Con Tryz.prog Tryz.L 60 [.sl l.length (lays l), .str a, .str b] (.tup [.int .i64 (if bothE (pos l a) (pos l b) = 0 then pos l a else 0), .int .i64 (if bothE (pos l a) (pos l b) = 0 then pos l b else 0), .int .i64 (bothE (pos l a) (pos l b))]) := by
  refine rule60 Tryz.hL rfl rfl rfl ?_
  (simp only [pc60, rs60]; refine ev0 ?_; try with_reducible exact trivial)
  refine callF_of hc ?_
  (refine ev0 ?_; try with_reducible exact trivial)
  refine callF_of (Tryz.c56p l a hl) ?_
  (refine ev0 ?_; try with_reducible exact trivial)
  refine callF_of (Tryz.c56p l b hl) ?_
  (refine ev0 ?_; try with_reducible exact trivial)
  generalize pos l a = i
  generalize pos l b = j
  have y : i < 0 ∨ j < 0 → bothE i j = 10 := fun h => if_pos h
  have n : ¬(i < 0 ∨ j < 0) → bothE i j = 0 := fun h => if_neg h
  repeat' first
    | intro _
    | (rw [y (by omega)]; rfl)
    | (rw [n (by omega)]; rfl)
    | apply And.intro

theorem Tryz.c21 (l : List Lay) (a : List UInt8) (hl : l.length ≤ 1000) (hc : Con Tryz.prog Tryz.L 45 [.sl l.length (lays l)] (.int .i64 0)) :
    Con Tryz.prog Tryz.L 21 [.sl l.length (lays l), .str a] (.tup [.int .i64 (if 0 ≤ pos l a then pos l a else 0), .bool (decide (0 ≤ pos l a)), .int .i64 0]) := by
  refine rule21 Tryz.hL rfl rfl rfl ?_
  (simp only [pc21, rs21]; refine ev0 ?_; try with_reducible exact trivial)
  refine callF_of hc ?_
  (refine ev0 ?_; try with_reducible exact trivial)
  refine callF_of (Tryz.c56p l a hl) ?_
  (refine ev0 ?_; try with_reducible exact trivial)
  generalize pos l a = i
  refine ⟨fun h => ?_, fun h => ?_⟩
  all_goals first
    | (rw [if_pos (by omega), decide_eq_true (by omega)]; rfl)
    | (rw [if_neg (by omega), decide_eq_false (by omega)]; rfl)

theorem Tryz.c23 (l : List Lay) (a b : List UInt8) (hl : l.length ≤ 1000) (hc : Con Tryz.prog Tryz.L 45 [.sl l.length (lays l)] (.int .i64 0)) :
    Con Tryz.prog Tryz.L 23 [.sl l.length (lays l), .str a, .str b] (.tup [.bool (decide (bothE (pos l a) (pos l b) = 0 ∧ pos l b < pos l a)), .int .i64 (bothE (pos l a) (pos l b))]) := by
  refine rule23 Tryz.hL rfl rfl rfl ?_
  (simp only [pc23, rs23]; refine ev0 ?_; try with_reducible exact trivial)
  refine callF_of (Tryz.c60 l a b hl hc) ?_
  (refine ev0 ?_; try with_reducible exact trivial)
  generalize pos l a = i
  generalize pos l b = j
  generalize bothE i j = e
  refine ⟨fun h => ?_, fun h => ?_⟩
  · rw [if_pos h, if_pos h]
    have : dB (j < i) = decide (e = 0 ∧ j < i) := by rw [Bool.eq_iff_iff, dB_iff, decide_eq_true_iff]; omega
    rw [this]; rfl
  · rw [decide_eq_false (by omega)]; rfl

/-- the numbers from i up to j -/
def upTo (i j : Int) : List Int := (List.range (j - i).toNat).map fun (n : Nat) => i + n
theorem upTo_len {i : Int} {k : Nat} : (upTo i (i + k)).length = k := by unfold upTo; rw [List.length_map, List.length_range]; omega
theorem upTo_snoc {i : Int} {k : Nat} : upTo i (i + k) ++ [i + k] = upTo i (i + (k + 1 : Nat)) := by
  unfold upTo
  rw [show (i + (k : Int) - i).toNat = k by omega, show (i + ((k + 1 : Nat) : Int) - i).toNat = k + 1 by omega, List.range_succ, List.map_append]
  rfl
theorem Tryz.c24 (l : List Lay) (a b : List UInt8) (hl : l.length ≤ 1000) (hc : Con Tryz.prog Tryz.L 45 [.sl l.length (lays l)] (.int .i64 0)) :
    Con Tryz.prog Tryz.L 24 [.sl l.length (lays l), .str a, .str b] (.tup [.sl (if bothE (pos l a) (pos l b) = 0 then upTo (pos l a) (pos l b) else []).length (ints .i64 (if bothE (pos l a) (pos l b) = 0 then upTo (pos l a) (pos l b) else [])), .int .i64 (if bothE (pos l a) (pos l b) = 0 then if pos l b ≤ pos l a then 6 else 0 else bothE (pos l a) (pos l b))]) := by
  refine rule24 Tryz.hL rfl rfl rfl ?_
  (simp only [pc24, rs24]; refine ev0 ?_; try with_reducible exact trivial)
  refine callF_of (Tryz.c60 l a b hl hc) ?_
  (refine ev0 ?_; try with_reducible exact trivial)
  have hi := pos_lo (l := l) (u := a)
  have hj := pos_lo (l := l) (u := b)
  have he : bothE (pos l a) (pos l b) = 0 → 0 ≤ pos l a ∧ 0 ≤ pos l b := fun h => by unfold bothE at h; split at h <;> omega
  generalize pos l a = i at hi he ⊢
  generalize pos l b = j at hj he ⊢
  generalize bothE i j = e at he ⊢
  refine ⟨fun h => ?_, fun h => ?_⟩
  · rw [if_neg h, if_neg h]; rfl
  · have h : e = 0 := by omega
    obtain ⟨i0, j0⟩ := he h
    rw [if_pos h, if_pos h, if_pos h, if_pos h]
    refine ⟨fun h2 => ?_, fun h2 => ?_⟩
    · rw [if_pos h2]
      have : upTo i j = [] := by unfold upTo; rw [show (j - i).toNat = 0 by omega]; rfl
      rw [this]; rfl
    · rw [if_neg h2]
      refine loopF_of (fun E => ∃ k : Nat, (k : Int) ≤ j - i ∧ E = [(8, .int .i64 (i + k)), (9, .int .i64 j), (11, .own true 3 k (ints .i64 (upTo i (i + k))))])
        (fun E => match lk E 8 with | .int _ x => (j - x).toNat | _ => 0) ⟨0, by omega, ?_⟩ ?_
      · simp [upTo, ints]
      rintro _ ⟨k, hk, rfl⟩
      (refine ev0 ?_; try with_reducible exact trivial)
      refine ⟨fun h3 => ⟨by omega, by omega, by omega, ⟨k + 1, by omega, ?_, ?_⟩, by omega⟩, fun h3 => ?_⟩
      · rw [show i + (k : Int) + 1 = i + ((k + 1 : Nat) : Int) by omega]
      · rw [upTo_snoc]
      · obtain rfl : j = i + k := by omega
        rw [upTo_len]; rfl
end Go.Proofs

/-
  SEAT 22: Contains; the names of a column. Own work.
-/
namespace Go.Proofs
open Go Go.Pi Go.RowKit

theorem Tryz.c71 (l : List (List UInt8)) (u : List UInt8) (hl : l.length ≤ 2000000) : Con Tryz.prog Tryz.L 71 [.sl l.length (strs l), .str u] (.int .i64 (idx (fun x => u == x) l)) := by
  refine rule71 Tryz.hL rfl rfl rfl ?_
  (simp only [pc71, rs71]; refine ev0 ?_; try with_reducible exact trivial)
  refine loopF_of (fun E => ∃ k : Nat, k ≤ l.length ∧ idx (fun x => u == x) l = idxA (fun x => u == x) (l.drop k) k ∧ E = [(0, .sl l.length (strs l)), (1, .str u), (7, .int .i64 l.length), (8, .int .i64 k)])
    (fun E => match lk E 8 with | .int _ i => l.length - i.toNat | _ => 0) ⟨0, Nat.zero_le _, rfl, rfl⟩ ?_
  rintro _ ⟨k, hk, hi, rfl⟩
  simp only [evA, evB, evC, forall_const, implies_true, initE, stepF, D.clean, mvF, moF, tkF, shF, ariF, ciF, catF, scF, ebF, eqF, eqOk, eqPr, enF, notF, ngF, cvF, csF, csbF, lenF, lenSF, ixF, iaF, PX.slot, iaAF, faF, ldF, D.mem, stF, bxF, mkSF, boundF, fldF, mmF2, D.plain, D.isPure, optAll, D.dull, callVF, splice, D.cells, D.one, sets, resT, D.flat, D.flat0, D.simple, Nat.reduceBNe, Nat.reduceLT, reduceIte, Nat.reduceEqDiff, Nat.reduceAdd, Nat.reduceMul, Nat.reduceSub, Nat.reduceLeDiff, Int.reduceToNat, Int.reduceLT, Int.reduceLE, Int.reduceEq, Int.reduceNeg, Int.reduceSub, Int.reduceAdd, Int.reduceMul, ldC_strs]
  refine ⟨fun h1 => ?_, fun h1 => ?_⟩
  · have hx : l[k]? = some (l[k]'(by omega)) := List.getElem?_eq_getElem (by omega)
    generalize l[k]'(by omega) = x at hx
    rw [drop_cons hx] at hi
    simp only [idxA] at hi
    refine ⟨⟨by omega, by rw [strs_length]; omega⟩, x, hx, fun h2 => ?_, fun h2 => ?_⟩
    all_goals first
      | (rw [hi, if_pos (beq_iff_eq.2 h2)]; done)
      | (rw [hi, if_pos (beq_iff_eq.2 h2)]; rfl)
      | (rw [hi, if_pos (beq_iff_eq.2 (Decidable.of_not_not h2))]; done)
      | (rw [hi, if_pos (beq_iff_eq.2 (Decidable.of_not_not h2))]; rfl)
      | (exact ⟨by omega, ⟨k + 1, by omega, by rw [hi, if_neg (fun h => h2 (beq_iff_eq.1 h))], rfl⟩, by omega⟩)
  · have : k = l.length := by omega
    subst this
    rw [hi]; simp [idxA]

theorem Tryz.c39 (l : List (List UInt8)) (u : List UInt8) (hl : l.length ≤ 2000000) : Con Tryz.prog Tryz.L 39 [.sl l.length (strs l), .str u] (.bool (dB (0 ≤ idx (fun x => u == x) l))) := by
  refine rule39 Tryz.hL rfl rfl rfl ?_
  (simp only [pc39, rs39]; refine ev0 ?_; try with_reducible exact trivial)
  refine callF_of (Tryz.c71 l u hl) ?_
  (refine ev0 ?_; try with_reducible exact trivial)

theorem Tryz.c69 (l : List Lay) (hl : l.length ≤ 1000) : Con Tryz.prog Tryz.L 69 [.sl l.length (lays l)] (.own true 9 l.length (strs (l.map Lay.u))) := by
  refine rule69 Tryz.hL rfl rfl rfl ?_
  (simp only [pc69, rs69]; refine ev0 ?_; try with_reducible exact trivial)
  refine loopF_of (fun E => ∃ k : Nat, k ≤ l.length ∧ E = [(3, .own true 9 k (strs ((l.take k).map Lay.u))), (6, .sl l.length (lays l)), (7, .int .i64 l.length), (8, .int .i64 k)])
    (fun E => match lk E 8 with | .int _ i => l.length - i.toNat | _ => 0) ⟨0, Nat.zero_le _, rfl⟩ ?_
  rintro _ ⟨k, hk, rfl⟩
  simp only [evA, evB, evC, forall_const, implies_true, initE, stepF, D.clean, mvF, moF, tkF, shF, ariF, ciF, catF, scF, ebF, eqF, eqOk, eqPr, enF, notF, ngF, cvF, csF, csbF, lenF, lenSF, ixF, iaF, PX.slot, iaAF, faF, ldF, D.mem, stF, bxF, mkSF, boundF, fldF, mmF2, D.plain, D.isPure, optAll, D.dull, callVF, splice, D.cells, D.one, sets, resT, D.flat, D.flat0, D.simple, Nat.reduceBNe, Nat.reduceLT, reduceIte, Nat.reduceEqDiff, Nat.reduceAdd, Nat.reduceMul, Nat.reduceSub, Nat.reduceLeDiff, Int.reduceToNat, Int.reduceLT, Int.reduceLE, Int.reduceEq, Int.reduceNeg, Int.reduceSub, Int.reduceAdd, Int.reduceMul, ldC_lays, Lay.d]
  refine ⟨fun h1 => ?_, fun h1 => ?_⟩
  · have hx : l[k]? = some (l[k]'(by omega)) := List.getElem?_eq_getElem (by omega)
    generalize l[k]'(by omega) = x at hx
    refine ⟨⟨by omega, by omega, by rw [rows_length Lay.d_len]; omega⟩, x, hx, by omega, by omega, by omega, ⟨k + 1, by omega, ?_, rfl⟩, by omega⟩
    obtain ⟨h2, rfl⟩ := List.getElem?_eq_some_iff.1 hx
    rw [List.take_succ_eq_append_getElem h2, List.map_append, strs_snoc]; rfl
  · have : k = l.length := by omega
    subst this
    rw [List.take_length]
end Go.Proofs

/-
  SEAT 22: Units. Own work.
-/
namespace Go.Proofs
open Go Go.Pi Go.RowKit

theorem Tryz.c35 (l : List Lay) (hl : l.length ≤ 1000) (hc : Con Tryz.prog Tryz.L 45 [.sl l.length (lays l)] (.int .i64 0)) : Con Tryz.prog Tryz.L 35 [.sl l.length (lays l)] (.tup [.sl l.length (strs (l.map Lay.u)), .int .i64 0]) := by
  refine rule35 Tryz.hL rfl rfl rfl ?_
  (simp only [pc35, rs35]; refine ev0 ?_; try with_reducible exact trivial)
  refine callF_of hc ?_
  (refine ev0 ?_; try with_reducible exact trivial)
  refine callF_of (Tryz.c69 l hl) ?_
  (refine ev0 ?_; try with_reducible exact trivial)
  rfl
end Go.Proofs

/-
  SEAT 22: Check of any column: the program's and the law's. Own work.
-/
namespace Go.Proofs
open Go Go.Pi Go.RowKit Go.Ar

def numOk (x : Lay) : Prop := okR x.a ∧ (x.b ≠ [] → okR x.b)
/-- a bound below the other one -/
def ltT (b a : List UInt8) : Prop := ∃ p q : Rat, b = rt p ∧ a = rt q ∧ p < q
open Classical in
/-- the error of a layer behind others -/
noncomputable def lerr (pre : List Lay) (x : Lay) : Int :=
  if ¬numOk x then 2 else if nm x.u = false then 8 else if 0 ≤ pos pre x.u then 9 else if isMinus x.a then 3 else if x.b ≠ [] ∧ ltT x.b x.a then 6 else 0
noncomputable def cerr : List Lay → List Lay → Int
  | _, [] => 0
  | pre, x :: r => if lerr pre x = 0 then cerr (pre ++ [x]) r else lerr pre x
/-- the error of a column -/
noncomputable def colE (l : List Lay) : Int := if l.length = 0 then 13 else if 60 < l.length then 4 else cerr [] l

theorem okR_len {s : List UInt8} (h : okR s) : s.length ≤ 402 := by
  obtain ⟨q, rfl, hq⟩ := h
  have := rt_len q; omega

section
variable {pre : List Lay} {x : Lay}
theorem lerr_num (h : ¬numOk x) : lerr pre x = 2 := by unfold lerr; rw [if_pos h]
theorem lerr_name (h : numOk x) (h2 : nm x.u = false) : lerr pre x = 8 := by unfold lerr; rw [if_neg (by simpa using h), if_pos h2]
theorem lerr_dup (h : numOk x) (h2 : nm x.u = true) (h3 : 0 ≤ pos pre x.u) : lerr pre x = 9 := by unfold lerr; rw [if_neg (by simpa using h), if_neg (by simp [h2]), if_pos h3]
theorem lerr_neg (h : numOk x) (h2 : nm x.u = true) (h3 : ¬0 ≤ pos pre x.u) (h4 : isMinus x.a) : lerr pre x = 3 := by unfold lerr; rw [if_neg (by simpa using h), if_neg (by simp [h2]), if_neg h3, if_pos h4]
theorem lerr_ord (h : numOk x) (h2 : nm x.u = true) (h3 : ¬0 ≤ pos pre x.u) (h4 : ¬isMinus x.a) (h5 : x.b ≠ []) (h6 : ltT x.b x.a) : lerr pre x = 6 := by unfold lerr; rw [if_neg (by simpa using h), if_neg (by simp [h2]), if_neg h3, if_neg h4, if_pos ⟨h5, h6⟩]
theorem lerr_ok (h : numOk x) (h2 : nm x.u = true) (h3 : ¬0 ≤ pos pre x.u) (h4 : ¬isMinus x.a) (h5 : x.b ≠ [] → ¬ltT x.b x.a) : lerr pre x = 0 := by unfold lerr; rw [if_neg (by simpa using h), if_neg (by simp [h2]), if_neg h3, if_neg h4, if_neg (fun h6 => h5 h6.1 h6.2)]
end

/-- the size of a column's texts -/
def Small (x : Lay) : Prop := x.a.length ≤ 1000 ∧ x.b.length ≤ 1000

theorem Tryz.c77g (x : Lay) (hx : Small x) : Con Tryz.prog Tryz.L 77 [.agg x.d] (.int .i64 (chk (numOk x))) := by
  refine rule77 Tryz.hL rfl rfl rfl ?_
  ((try simp only [pc77, rs77, Lay.d]); refine ev ?_; try with_reducible exact trivial)
  refine callF_of (Tryz.rcheck x.a (by have := hx.1; omega)) ?_
  (refine ev ?_; try with_reducible exact trivial)
  rw [chk_0]
  refine ⟨fun h => ⟨fun _ => by rw [chk_f (fun h2 => h h2.1)], fun h2 => absurd h h2⟩, fun h => ⟨fun h2 => ?_, fun h2 => by rw [chk_t ⟨Classical.not_not.1 h, fun h3 => absurd h3 h2⟩]⟩⟩
  refine callF_of (Tryz.rcheck x.b (by have := hx.2; omega)) ?_
  (refine ev ?_; try with_reducible exact trivial)
  rw [chk_0]
  refine ⟨fun h3 => by rw [chk_f (fun h4 => h3 (h4.2 h2))], fun h3 => by rw [chk_t ⟨Classical.not_not.1 h, fun _ => Classical.not_not.1 h3⟩]⟩

theorem numOk_sign {x : Lay} (h : numOk x) : ∃ q : Rat, x.a = rt q ∧ rd q ≤ 200 ∧ (isMinus x.a ↔ q.num.sign < 0) := by
  obtain ⟨q, e, hq⟩ := h.1
  refine ⟨q, e, hq, ?_⟩
  rw [e, rt_minus]
  rcases sgn_cases q with ⟨h1, h2, h3⟩ | ⟨h1, h2, h3⟩ | ⟨h1, h2, h3⟩
  · rw [h3]; exact ⟨fun _ => by decide, fun _ => h1⟩
  · rw [h3, h1]; exact ⟨fun h => absurd h Rat.lt_irrefl, fun h => absurd h (by decide)⟩
  · rw [h3]; exact ⟨fun h => by grind, fun h => absurd h (by decide)⟩
theorem numOk_cmp {x : Lay} (h : numOk x) (hb : x.b ≠ []) : ∃ p q : Rat, x.b = rt p ∧ x.a = rt q ∧ rd p ≤ 200 ∧ rd q ≤ 200 ∧ (ltT x.b x.a ↔ cmpQ p q < 0) := by
  obtain ⟨q, e, hq⟩ := h.1
  obtain ⟨p, e2, hp⟩ := h.2 hb
  refine ⟨p, q, e2, e, hp, hq, ?_⟩
  rw [e, e2]
  constructor
  · rintro ⟨p', q', h1, h2, h3⟩
    rw [rt_inj h1, rt_inj h2]
    unfold cmpQ; rw [if_pos h3]; decide
  · intro h
    refine ⟨p, q, rfl, rfl, ?_⟩
    unfold cmpQ at h
    split at h
    · assumption
    · split at h <;> omega

theorem cerr_step {l : List Lay} {k : Nat} {x : Lay} (hx : l[k]? = some x) : cerr (l.take k) (l.drop k) = if lerr (l.take k) x = 0 then cerr (l.take (k + 1)) (l.drop (k + 1)) else lerr (l.take k) x := by
  obtain ⟨hk, rfl⟩ := List.getElem?_eq_some_iff.1 hx
  rw [List.drop_eq_getElem_cons hk, List.take_succ_eq_append_getElem hk]
  simp only [cerr]

set_option maxHeartbeats 1000000 in
theorem Tryz.c45g (l : List Lay) (hs : ∀ x ∈ l, Small x) : Con Tryz.prog Tryz.L 45 [.sl l.length (lays l)] (.int .i64 (colE l)) := by
  refine rule45 Tryz.hL rfl rfl rfl ?_
  (simp only [pc45, rs45]; refine ev ?_; try with_reducible exact trivial)
  unfold colE
  refine ⟨fun h => by rw [if_pos (by omega)], fun h => ⟨fun h2 => by rw [if_neg (by omega), if_pos (by omega)], fun h2 => ?_⟩⟩
  rw [if_neg (by omega), if_neg (by omega)]
  refine loopF_of (fun E => ∃ k : Nat, k ≤ l.length ∧ cerr [] l = cerr (l.take k) (l.drop k) ∧ E = [(0, .sl l.length (lays l)), (14, .sl l.length (lays l)), (15, .int .i64 l.length), (16, .int .i64 k)])
    (fun E => match lk E 16 with | .int _ i => l.length - i.toNat | _ => 0) ⟨0, Nat.zero_le _, rfl, rfl⟩ ?_
  rintro _ ⟨k, hk, hc, rfl⟩
  simp only [evX, evY, evZ, forall_const, implies_true, initE, stepF, D.clean, mvF, moF, tkF, shF, ariF, ciF, catF, scF, ebF, eqF, eqOk, eqPr, enF, notF, ngF, cvF, csF, csbF, lenF, lenSF, ixF, iaF, PX.slot, iaAF, faF, ldF, D.mem, stF, bxF, mkSF, boundF, fldF, mmF2, D.plain, D.isPure, optAll, D.dull, callVF, splice, D.cells, D.one, sets, resT, D.flat, D.flat0, D.simple, Nat.reduceBNe, Nat.reduceLT, reduceIte, Nat.reduceEqDiff, Nat.reduceAdd, Nat.reduceMul, Nat.reduceSub, Nat.reduceLeDiff, Int.reduceToNat, Int.reduceLT, Int.reduceLE, Int.reduceEq, Int.reduceNeg, Int.reduceSub, Int.reduceAdd, Int.reduceMul, ldC_lays, Lay.d]
  refine ⟨fun h3 => ?_, fun h3 => ?_⟩
  rotate_left
  · obtain rfl : k = l.length := by omega
    rw [hc, List.drop_length]; rfl
  have hx : l[k]? = some (l[k]'(by omega)) := List.getElem?_eq_getElem (by omega)
  generalize l[k]'(by omega) = x at hx
  rw [cerr_step hx] at hc
  have sm := hs x (List.mem_of_getElem? hx)
  refine ⟨⟨by omega, by omega, by rw [rows_length Lay.d_len]; omega⟩, x, hx, ?_⟩
  refine callF_of (Tryz.c77g x sm) ?_
  (refine ev ?_; try with_reducible exact trivial)
  rw [chk_0]
  refine ⟨fun h4 => by rw [chk_f h4, hc, if_neg (by rw [lerr_num h4]; decide), lerr_num h4], fun h4 => ?_⟩
  have hn := Classical.not_not.1 h4
  refine callF_of (Tryz.c68g x.u) ?_
  cases hnm : nm x.u with
  | false => (refine ev ?_; try with_reducible exact trivial); rw [hc, lerr_name hn hnm]; rfl
  | true =>
    (refine ev ?_; try with_reducible exact trivial)
    have hck := Tryz.c56 (l.take k) x.u (by rw [List.length_take]; omega)
    rw [show (l.take k).length = k by rw [List.length_take]; omega] at hck
    refine ⟨by omega, by omega, by omega, by rw [rows_length Lay.d_len], ?_⟩
    rw [cut_rows Lay.d_len, List.drop_zero]
    refine callF_of hck ?_
    (refine ev ?_; try with_reducible exact trivial)
    refine ⟨fun h5 => by rw [hc, lerr_dup hn hnm h5]; rfl, fun h5 => ?_⟩
    obtain ⟨q0, e0, hq0, hsg⟩ := numOk_sign hn
    have hs1 := Tryz.rsign q0 (by omega)
    rw [← e0] at hs1
    refine callF_of hs1 ?_
    (refine ev ?_; try with_reducible exact trivial)
    rw [← hsg]
    refine ⟨fun h6 => by rw [hc, lerr_neg hn hnm h5 h6]; rfl, fun h6 => ?_⟩
    refine ⟨fun hb => ?_, fun hb => ?_⟩
    · obtain ⟨p, q, e1, e2, hp, hq, hlt⟩ := numOk_cmp hn hb
      have hcm := Tryz.rcompare p q (by omega) (by omega)
      rw [← e1, ← e2] at hcm
      refine callF_of hcm ?_
      (refine ev ?_; try with_reducible exact trivial)
      rw [← hlt]
      refine ⟨fun h7 => by rw [hc, lerr_ord hn hnm h5 h6 hb h7]; rfl, fun h7 => ⟨by omega, ⟨k + 1, by omega, ?_, rfl⟩, by omega⟩⟩
      rw [hc, if_pos (lerr_ok hn hnm h5 h6 fun _ => h7)]
    · refine ⟨by omega, ⟨k + 1, by omega, ?_, rfl⟩, by omega⟩
      rw [hc, if_pos (lerr_ok hn hnm h5 h6 fun h => absurd h hb)]

/-! ### the law's check -/
set_option maxHeartbeats 2000000 in
theorem Tryz.c74g (s : List UInt8) (hs : s.length ≤ 1000000) : Con Tryz.prog Tryz.L 74 [.str s] (.bool (nm s)) := by
  refine rule74 Tryz.hL rfl rfl rfl ?_
  (simp only [pc74, rs74]; refine ev ?_; try with_reducible exact trivial)
  refine loopF_of (fun E => ∃ k : Nat, k ≤ s.length ∧ nmA s 0 = nmA (s.drop k) k ∧ E = [(0, .str s), (7, .int .i64 s.length), (8, .int .i64 k)])
    (fun E => match lk E 8 with | .int _ i => s.length - i.toNat | _ => 0) ⟨0, Nat.zero_le _, rfl, rfl⟩ ?_
  rintro _ ⟨k, hk, hi, rfl⟩
  (refine ev ?_; try with_reducible exact trivial)
  refine ⟨fun h2 => ?_, fun h2 => ?_⟩
  · have hx : s[k]? = some (s[k]'(by omega)) := List.getElem?_eq_getElem (by omega)
    have hg : s.getD k 0 = s[k]'(by omega) := by rw [List.getD_eq_getElem?_getD, hx]; rfl
    rw [hg]
    generalize s[k]'(by omega) = x at hx
    rw [drop_cons hx] at hi
    simp only [nmA] at hi
    have yes : okP k x.toNat → nmA s 0 = nmA (s.drop (k + 1)) (k + 1) := fun h => by rw [hi, decide_eq_true h]; rfl
    have no : ¬okP k x.toNat → false = nm s := fun h => by unfold nm; rw [hi, decide_eq_false h]; simp
    unfold okP at yes no
    clear hi hx hg
    generalize x.toNat = n at yes no
    have fin : (97 ≤ n ∧ n ≤ 122 ∨ 65 ≤ n ∧ n ≤ 90 ∨ k ≠ 0 ∧ (48 ≤ n ∧ n ≤ 57 ∨ n = 95)) → (-9223372036854775808 ≤ (k : Int) + 1 ∧ (k : Int) + 1 ≤ 9223372036854775807) ∧
        (∃ k1 : Nat, k1 ≤ s.length ∧ nmA s 0 = nmA (List.drop k1 s) k1 ∧ (8, D.int IntKind.i64 ((k : Int) + 1)) = (8, D.int IntKind.i64 k1)) ∧ s.length - ((k : Int) + 1).toNat < s.length - k := fun h => ⟨by omega, ⟨k + 1, by omega, yes h, rfl⟩, by omega⟩
    clear yes
    repeat' first
      | intro _
      | exact no (by omega)
      | exact fin (by omega)
      | omega
      | apply And.intro
  · have : k = s.length := by omega
    subst this
    have hnm : nm s = (s != [] && decide (s.length ≤ 32)) := by unfold nm; rw [hi]; simp [nmA]
    rw [hnm]
    refine ⟨fun h => ?_, fun h => ?_⟩
    · rw [show (s != []) = true by simp; intro h2; rw [h2] at h; simp at h, Bool.true_and, ← dB_dec]
      congr 1
      exact propext ⟨fun h => by omega, fun h => by omega⟩
    · rw [show (s != []) = false by simp; exact List.eq_nil_of_length_eq_zero (by omega), Bool.false_and]

set_option maxHeartbeats 1000000 in
theorem Tryz.c44g (l : List Lay) (hs : ∀ x ∈ l, Small x ∧ x.u.length ≤ 1000) : Con Tryz.prog Tryz.L 44 [.sl l.length (lays l)] (.int .i64 (colE l)) := by
  refine rule44 Tryz.hL rfl rfl rfl ?_
  (simp only [pc44, rs44]; refine ev ?_; try with_reducible exact trivial)
  unfold colE
  refine ⟨fun h => by rw [if_pos (by omega)], fun h => ⟨fun h2 => by rw [if_neg (by omega), if_pos (by omega)], fun h2 => ?_⟩⟩
  rw [if_neg (by omega), if_neg (by omega)]
  refine loopF_of (fun E => ∃ k : Nat, k ≤ l.length ∧ cerr [] l = cerr (l.take k) (l.drop k) ∧ E = [(0, .sl l.length (lays l)), (11, .sl l.length (lays l)), (12, .int .i64 l.length), (13, .int .i64 k)])
    (fun E => match lk E 13 with | .int _ i => l.length - i.toNat | _ => 0) ⟨0, Nat.zero_le _, rfl, rfl⟩ ?_
  rintro _ ⟨k, hk, hc, rfl⟩
  simp only [evX, evY, evZ, forall_const, implies_true, initE, stepF, D.clean, mvF, moF, tkF, shF, ariF, ciF, catF, scF, ebF, eqF, eqOk, eqPr, enF, notF, ngF, cvF, csF, csbF, lenF, lenSF, ixF, iaF, PX.slot, iaAF, faF, ldF, D.mem, stF, bxF, mkSF, boundF, fldF, mmF2, D.plain, D.isPure, optAll, D.dull, callVF, splice, D.cells, D.one, sets, resT, D.flat, D.flat0, D.simple, Nat.reduceBNe, Nat.reduceLT, reduceIte, Nat.reduceEqDiff, Nat.reduceAdd, Nat.reduceMul, Nat.reduceSub, Nat.reduceLeDiff, Int.reduceToNat, Int.reduceLT, Int.reduceLE, Int.reduceEq, Int.reduceNeg, Int.reduceSub, Int.reduceAdd, Int.reduceMul, ldC_lays, Lay.d]
  refine ⟨fun h3 => ?_, fun h3 => ?_⟩
  rotate_left
  · obtain rfl : k = l.length := by omega
    rw [hc, List.drop_length]; rfl
  have hx : l[k]? = some (l[k]'(by omega)) := List.getElem?_eq_getElem (by omega)
  generalize l[k]'(by omega) = x at hx
  rw [cerr_step hx] at hc
  have sm := hs x (List.mem_of_getElem? hx)
  refine ⟨⟨by omega, by omega, by rw [rows_length Lay.d_len]; omega⟩, x, hx, ?_⟩
  refine callF_of (Tryz.qright x.a (by have := sm.1.1; omega)) ?_
  (refine ev ?_; try with_reducible exact trivial)
  have e2 : ¬numOk x → 2 = cerr [] l := fun h4 => by rw [hc, if_neg (by rw [lerr_num h4]; decide), lerr_num h4]
  refine ⟨fun h4 => ⟨fun hb => ?_, fun hb => ?_⟩, fun h4 => by rw [← e2 (fun h => h4 h.1)]⟩
  · have h4 := Classical.not_not.1 h4
    refine callF_of (Tryz.qright x.b (by have := sm.1.2; omega)) ?_
    (refine ev ?_; try with_reducible exact trivial)
    refine ⟨fun h5 => by rw [← e2 (fun h => h5 (h.2 hb))], fun h5 => ?_⟩
    · have hn : numOk x := ⟨h4, fun _ => Classical.not_not.1 h5⟩
      clear e2 hb
      refine callF_of (Tryz.c74g x.u (by have := sm.2; omega)) ?_
      cases hnm : nm x.u with
      | false => (refine ev ?_; try with_reducible exact trivial); rw [hc, lerr_name hn hnm]; rfl
      | true =>
        (refine ev ?_; try with_reducible exact trivial)
        have hck := Tryz.c20 (l.take k) x.u (by rw [List.length_take]; omega)
        rw [show (l.take k).length = k by rw [List.length_take]; omega] at hck
        refine ⟨by omega, by omega, by omega, by rw [rows_length Lay.d_len], ?_⟩
        rw [cut_rows Lay.d_len, List.drop_zero]
        refine callF_of hck ?_
        (refine ev ?_; try with_reducible exact trivial)
        refine ⟨fun h5 => by rw [hc, lerr_dup hn hnm h5]; rfl, fun h5 => ?_⟩
        obtain ⟨q0, e0, hq0, hsg⟩ := numOk_sign hn
        have hs1 := Tryz.qsign q0 (by omega)
        rw [← e0] at hs1
        refine callF_of hs1 ?_
        (refine ev ?_; try with_reducible exact trivial)
        rw [← hsg]
        refine ⟨fun h6 => by rw [hc, lerr_neg hn hnm h5 h6]; rfl, fun h6 => ?_⟩
        refine ⟨fun hb => ?_, fun hb => ?_⟩
        · obtain ⟨p, q, e1, e2, hp, hq, hlt⟩ := numOk_cmp hn hb
          have hcm := Tryz.qcompare p q (by omega) (by omega)
          rw [← e1, ← e2] at hcm
          refine callF_of hcm ?_
          (refine ev ?_; try with_reducible exact trivial)
          rw [← hlt]
          refine ⟨fun h7 => by rw [hc, lerr_ord hn hnm h5 h6 hb h7]; rfl, fun h7 => ⟨by omega, ⟨k + 1, by omega, ?_, rfl⟩, by omega⟩⟩
          rw [hc, if_pos (lerr_ok hn hnm h5 h6 fun _ => h7)]
        · refine ⟨by omega, ⟨k + 1, by omega, ?_, rfl⟩, by omega⟩
          rw [hc, if_pos (lerr_ok hn hnm h5 h6 fun h => absurd h hb)]
  · have hn : numOk x := ⟨Classical.not_not.1 h4, fun h => absurd h hb⟩
    clear e2 hb
    refine callF_of (Tryz.c74g x.u (by have := sm.2; omega)) ?_
    cases hnm : nm x.u with
    | false => (refine ev ?_; try with_reducible exact trivial); rw [hc, lerr_name hn hnm]; rfl
    | true =>
      (refine ev ?_; try with_reducible exact trivial)
      have hck := Tryz.c20 (l.take k) x.u (by rw [List.length_take]; omega)
      rw [show (l.take k).length = k by rw [List.length_take]; omega] at hck
      refine ⟨by omega, by omega, by omega, by rw [rows_length Lay.d_len], ?_⟩
      rw [cut_rows Lay.d_len, List.drop_zero]
      refine callF_of hck ?_
      (refine ev ?_; try with_reducible exact trivial)
      refine ⟨fun h5 => by rw [hc, lerr_dup hn hnm h5]; rfl, fun h5 => ?_⟩
      obtain ⟨q0, e0, hq0, hsg⟩ := numOk_sign hn
      have hs1 := Tryz.qsign q0 (by omega)
      rw [← e0] at hs1
      refine callF_of hs1 ?_
      (refine ev ?_; try with_reducible exact trivial)
      rw [← hsg]
      refine ⟨fun h6 => by rw [hc, lerr_neg hn hnm h5 h6]; rfl, fun h6 => ?_⟩
      refine ⟨fun hb => ?_, fun hb => ?_⟩
      · obtain ⟨p, q, e1, e2, hp, hq, hlt⟩ := numOk_cmp hn hb
        have hcm := Tryz.qcompare p q (by omega) (by omega)
        rw [← e1, ← e2] at hcm
        refine callF_of hcm ?_
        (refine ev ?_; try with_reducible exact trivial)
        rw [← hlt]
        refine ⟨fun h7 => by rw [hc, lerr_ord hn hnm h5 h6 hb h7]; rfl, fun h7 => ⟨by omega, ⟨k + 1, by omega, ?_, rfl⟩, by omega⟩⟩
        rw [hc, if_pos (lerr_ok hn hnm h5 h6 fun _ => h7)]
      · refine ⟨by omega, ⟨k + 1, by omega, ?_, rfl⟩, by omega⟩
        rw [hc, if_pos (lerr_ok hn hnm h5 h6 fun h => absurd h hb)]
end Go.Proofs

/-
  SEAT 22: ColumnChecks: few, EqualFunc, and all functions at a column that is not right. Own work.
-/
namespace Go.Proofs
open Go Go.Pi Go.RowKit Go.Ar

def long (x : Lay) : Bool := decide (40 < x.u.length ∨ 20 < x.a.length ∨ 20 < x.b.length)
def few (l : List Lay) : Prop := (l.length ≤ 5 ∨ 60 ≤ l.length ∧ l.length ≤ 62) ∧ ∀ x ∈ l, long x = false
theorem idxA_any {α : Type} {p : α → Bool} : ∀ {l : List α} {k : Nat}, 0 ≤ idxA p l k ↔ ∃ x ∈ l, p x = true
  | [], k => by simp [idxA]
  | x :: r, k => by
    simp only [idxA]
    cases h : p x with
    | true => simp [h]
    | false =>
      simp only [Bool.false_eq_true, if_false]
      rw [idxA_any (l := r)]
      simp [h]
theorem Tryz.c72 (x : Lay) : Con Tryz.prog Tryz.L 72 ([.agg x.d] ++ []) (.bool (long x)) := by
  refine rule72 Tryz.hL rfl rfl rfl ?_
  ((try simp only [pc72, rs72, Lay.d]); refine ev ?_; try with_reducible exact trivial)
  unfold long
  rw [dB_dec]
  repeat' first
    | intro _
    | (rw [dB_t (by omega)]; done)
    | (rw [dB_f (by omega)]; done)
    | (refine congrArg dB (propext ⟨fun h => ?_, fun h => ?_⟩) <;> omega)
    | apply And.intro
theorem Tryz.c43 (l : List Lay) : Con Tryz.prog Tryz.L 43 [.sl l.length (lays l)] (.bool (dB (few l))) := by
  refine rule43 Tryz.hL rfl rfl rfl ?_
  (simp only [pc43, rs43]; refine ev ?_; try with_reducible exact trivial)
  have main : l.length ≤ 1000 → (l.length ≤ 5 ∨ 60 ≤ l.length ∧ l.length ≤ 62) → Con Tryz.prog Tryz.L 51 [.sl l.length (lays l), .clo 72 []] (.bool (!dB (few l))) := by
    intro h1 h2
    have h := Tryz.c51 long l h1 fun x _ => Tryz.c72 x
    have e : dB (0 ≤ idx long l) = !dB (few l) := by
      rw [dB_neg]
      refine congrArg dB (propext ?_)
      rw [show idx long l = idxA long l 0 from rfl, idxA_any]
      constructor
      · rintro ⟨x, hx, hl⟩ hf
        rw [hf.2 x hx] at hl; cases hl
      · intro hf
        refine Classical.byContradiction fun h3 => hf ⟨h2, fun x hx => ?_⟩
        cases hb : long x with
        | false => rfl
        | true => exact absurd ⟨x, hx, hb⟩ h3
    rw [e] at h; exact h
  refine ⟨fun h => ⟨fun h2 => ⟨fun h3 => by rw [dB_f (fun h4 => by have := h4.1; omega)], fun h3 => ?_⟩, fun h2 => by rw [dB_f (fun h4 => by have := h4.1; omega)]⟩, fun h => ?_⟩
  all_goals
    refine callF_of (main (by omega) (by omega)) ?_
    (refine ev ?_; try with_reducible exact trivial)
    first | rw [Bool.not_not] | exact congrArg dB (propext Classical.not_not)
theorem Tryz.c47 (x : Lay) (s : List UInt8) : Con Tryz.prog Tryz.L 47 ([.agg x.d, .str s] ++ []) (.bool (dB (x.u = s))) := by
  refine rule47 Tryz.hL rfl rfl rfl ?_
  ((try simp only [pc47, rs47, Lay.d]); refine ev ?_; try with_reducible exact trivial)
theorem Tryz.c46 (l : List Lay) (hl : l.length ≤ 1000) : Con Tryz.prog Tryz.L 46 [.sl l.length (lays l), .sl l.length (strs (l.map Lay.u)), .clo 47 []] (.bool true) := by
  refine rule46 Tryz.hL rfl rfl rfl ?_
  (simp only [pc46, rs46]; refine ev ?_; try with_reducible exact trivial)
  have hlen : (l.map Lay.u).length = l.length := List.length_map ..
  refine loopF_of (fun E => ∃ k : Nat, k ≤ l.length ∧ E = [(1, .sl l.length (strs (l.map Lay.u))), (2, .clo 47 []), (15, .sl l.length (lays l)), (16, .int .i64 l.length), (17, .int .i64 k)])
    (fun E => match lk E 17 with | .int _ i => l.length - i.toNat | _ => 0) ⟨0, Nat.zero_le _, rfl⟩ ?_
  rintro _ ⟨k, hk, rfl⟩
  simp only [evX, evY, evZ, forall_const, implies_true, initE, stepF, D.clean, mvF, moF, tkF, shF, ariF, ciF, catF, scF, ebF, eqF, eqOk, eqPr, enF, notF, ngF, cvF, csF, csbF, lenF, lenSF, ixF, iaF, PX.slot, iaAF, faF, ldF, D.mem, stF, bxF, mkSF, boundF, fldF, mmF2, D.plain, D.isPure, optAll, D.dull, callVF, splice, D.cells, D.one, sets, resT, D.flat, D.flat0, D.simple, Nat.reduceBNe, Nat.reduceLT, reduceIte, Nat.reduceEqDiff, Nat.reduceAdd, Nat.reduceMul, Nat.reduceSub, Nat.reduceLeDiff, Int.reduceToNat, Int.reduceLT, Int.reduceLE, Int.reduceEq, Int.reduceNeg, Int.reduceSub, Int.reduceAdd, Int.reduceMul, ldC_lays, ldC_strs, Lay.d]
  intro h1
  have hx : l[k]? = some (l[k]'(by omega)) := List.getElem?_eq_getElem (by omega)
  have hu : (l.map Lay.u)[k]? = some (l[k]'(by omega)).u := by rw [List.getElem?_map, hx]; rfl
  generalize l[k]'(by omega) = x at hx hu
  refine ⟨⟨by omega, by omega, by rw [rows_length Lay.d_len]; omega⟩, x, hx, ⟨by omega, by omega, by rw [strs_length]; omega⟩, x.u, hu, ?_⟩
  have h47 := Tryz.c47 x x.u
  rw [dB_t rfl] at h47
  refine callF_of h47 ?_
  (refine ev ?_; try with_reducible exact trivial)
  exact ⟨by omega, ⟨k + 1, by omega, rfl⟩, by omega⟩

section
variable (l : List Lay) (e : Int) (he : e ≠ 0) (hl : l.length ≤ 1000) (hc : Con Tryz.prog Tryz.L 45 [.sl l.length (lays l)] (.int .i64 e))
include he hc
theorem Tryz.e35 : Con Tryz.prog Tryz.L 35 [.sl l.length (lays l)] (.tup [.sl 0 [], .int .i64 e]) := by
  refine rule35 Tryz.hL rfl rfl rfl ?_
  (simp only [pc35, rs35]; refine ev ?_; try with_reducible exact trivial)
  refine callF_of hc ?_
  (refine ev ?_; try with_reducible exact trivial)
  refine ⟨fun _ => rfl, fun h => absurd he h⟩
theorem Tryz.e21 (s : List UInt8) : Con Tryz.prog Tryz.L 21 [.sl l.length (lays l), .str s] (.tup [.int .i64 0, .bool false, .int .i64 e]) := by
  refine rule21 Tryz.hL rfl rfl rfl ?_
  (simp only [pc21, rs21]; refine ev ?_; try with_reducible exact trivial)
  refine callF_of hc ?_
  (refine ev ?_; try with_reducible exact trivial)
  refine ⟨fun _ => rfl, fun h => absurd he h⟩
theorem Tryz.e60 (s t : List UInt8) : Con Tryz.prog Tryz.L 60 [.sl l.length (lays l), .str s, .str t] (.tup [.int .i64 0, .int .i64 0, .int .i64 e]) := by
  refine rule60 Tryz.hL rfl rfl rfl ?_
  (simp only [pc60, rs60]; refine ev ?_; try with_reducible exact trivial)
  refine callF_of hc ?_
  (refine ev ?_; try with_reducible exact trivial)
  refine ⟨fun _ => rfl, fun h => absurd he h⟩
theorem Tryz.e22 (s t : List UInt8) : Con Tryz.prog Tryz.L 22 [.sl l.length (lays l), .str s, .str t] (.tup [.agg [.str [], .str []], .int .i64 e]) := by
  refine rule22 Tryz.hL rfl rfl rfl ?_
  (simp only [pc22, rs22]; refine ev ?_; try with_reducible exact trivial)
  refine callF_of (Tryz.e60 l e he hc s t) ?_
  (refine ev ?_; try with_reducible exact trivial)
  refine ⟨fun _ => rfl, fun h => absurd he h⟩
theorem Tryz.e23 (s t : List UInt8) : Con Tryz.prog Tryz.L 23 [.sl l.length (lays l), .str s, .str t] (.tup [.bool false, .int .i64 e]) := by
  refine rule23 Tryz.hL rfl rfl rfl ?_
  (simp only [pc23, rs23]; refine ev ?_; try with_reducible exact trivial)
  refine callF_of (Tryz.e60 l e he hc s t) ?_
  (refine ev ?_; try with_reducible exact trivial)
  refine ⟨fun h => absurd h he, fun _ => rfl⟩
theorem Tryz.e24 (s t : List UInt8) : Con Tryz.prog Tryz.L 24 [.sl l.length (lays l), .str s, .str t] (.tup [.sl 0 [], .int .i64 e]) := by
  refine rule24 Tryz.hL rfl rfl rfl ?_
  (simp only [pc24, rs24]; refine ev ?_; try with_reducible exact trivial)
  refine callF_of (Tryz.e60 l e he hc s t) ?_
  (refine ev ?_; try with_reducible exact trivial)
  refine ⟨fun _ => rfl, fun h => absurd he h⟩
theorem Tryz.e33 : Con Tryz.prog Tryz.L 33 [.sl l.length (lays l), .sl 0 []] (.tup [.sl 0 [], .int .i64 e]) := by
  refine rule33 Tryz.hL rfl rfl rfl ?_
  (simp only [pc33, rs33]; refine ev ?_; try with_reducible exact trivial)
  refine callF_of hc ?_
  (refine ev ?_; try with_reducible exact trivial)
  refine ⟨fun _ => rfl, fun h => absurd he h⟩
theorem Tryz.e29 : Con Tryz.prog Tryz.L 29 [.sl l.length (lays l), .sl 0 []] (.tup [.int .i64 0, .bool false, .int .i64 e]) := by
  refine rule29 Tryz.hL rfl rfl rfl ?_
  (simp only [pc29, rs29]; refine ev ?_; try with_reducible exact trivial)
  refine callF_of hc ?_
  (refine ev ?_; try with_reducible exact trivial)
  refine ⟨fun _ => rfl, fun h => absurd he h⟩
theorem Tryz.e36 : Con Tryz.prog Tryz.L 36 [.sl l.length (lays l), .sl 0 []] (.tup [.int .i64 0, .bool false, .int .i64 e]) := by
  refine rule36 Tryz.hL rfl rfl rfl ?_
  (simp only [pc36, rs36]; refine ev ?_; try with_reducible exact trivial)
  refine callF_of hc ?_
  (refine ev ?_; try with_reducible exact trivial)
  refine ⟨fun _ => rfl, fun h => absurd he h⟩
theorem Tryz.e13 : Con Tryz.prog Tryz.L 13 [.sl l.length (lays l)] (.tup [.sl 0 [], .int .i64 e]) := by
  refine rule13 Tryz.hL (fun q hq => by simp [PC.backs, pc13] at hq; subst hq; exact back53) rfl rfl rfl ?_
  (simp only [pc13, rs13]; refine ev ?_; try with_reducible exact trivial)
  refine callF_of hc ?_
  (refine ev ?_; try with_reducible exact trivial)
  refine ⟨fun _ => rfl, fun h => absurd he h⟩
theorem Tryz.e17a (m : List Lay) : Con Tryz.prog Tryz.L 17 [.sl l.length (lays l), .sl m.length (lays m)] (.tup [.sl 0 [], .int .i64 e]) := by
  refine rule17 Tryz.hL rfl rfl rfl ?_
  (simp only [pc17, rs17]; refine ev ?_; try with_reducible exact trivial)
  refine loopF_of (fun E => E = [(0, .sl l.length (lays l)), (1, .sl m.length (lays m)), (15, .own true 28 2 [.sl l.length (lays l), .sl m.length (lays m)]), (16, .int .i64 2), (17, .int .i64 0)])
    (fun _ => 0) rfl ?_
  rintro _ rfl
  (refine ev ?_; try with_reducible exact trivial)
  refine ⟨by omega, ?_⟩
  refine callF_of hc ?_
  (refine ev ?_; try with_reducible exact trivial)
  refine ⟨fun _ => rfl, fun h => absurd he h⟩
theorem Tryz.e17b (m : List Lay) (hm : Con Tryz.prog Tryz.L 45 [.sl m.length (lays m)] (.int .i64 0)) : Con Tryz.prog Tryz.L 17 [.sl m.length (lays m), .sl l.length (lays l)] (.tup [.sl 0 [], .int .i64 e]) := by
  refine rule17 Tryz.hL rfl rfl rfl ?_
  (simp only [pc17, rs17]; refine ev ?_; try with_reducible exact trivial)
  refine loopF_of (fun E => ∃ k : Nat, k ≤ 1 ∧ E = [(0, .sl m.length (lays m)), (1, .sl l.length (lays l)), (15, .own true 28 2 [.sl m.length (lays m), .sl l.length (lays l)]), (16, .int .i64 2), (17, .int .i64 k)])
    (fun E => match lk E 17 with | .int _ i => 2 - i.toNat | _ => 0) ⟨0, by omega, rfl⟩ ?_
  rintro _ ⟨k, hk, rfl⟩
  have hk3 : k = 0 ∨ k = 1 := by omega
  rcases hk3 with rfl | rfl
  · (refine ev0 ?_; try with_reducible exact trivial)
    refine ⟨fun _ => ⟨by omega, ?_⟩, fun h => by omega⟩
    refine callF_of hm ?_
    (refine ev0 ?_; try with_reducible exact trivial)
    exact ⟨by omega, ⟨1, by omega, rfl⟩, by omega⟩
  · (refine ev0 ?_; try with_reducible exact trivial)
    refine ⟨fun _ => ⟨by omega, ?_⟩, fun h => by omega⟩
    refine callF_of hc ?_
    (refine ev0 ?_; try with_reducible exact trivial)
    refine ⟨fun _ => rfl, fun h => absurd he h⟩
end

theorem Tryz.c45ex : Con Tryz.prog Tryz.L 45 [.sl 3 (lays exampleL)] (.int .i64 0) := by
  refine Tryz.c45 exampleL (by decide) (by decide) (by decide) fun x hx => ?_
  simp only [exampleL, List.mem_cons, List.not_mem_nil, or_false] at hx
  rcases hx with rfl | rfl | rfl
  all_goals exact layOf_ok _ _ _ (by omega) (by omega) (by omega)
theorem Tryz.c48 : Con Tryz.prog Tryz.L 48 [] (.own true 39 3 (lays exampleL)) := by
  have e : lays exampleL = [.str [65], .str [49], .str [50], .str [66], .str [48], .str [51], .str [67], .str [49], .str []] := by rfl
  rw [e]
  refine rule48 Tryz.hL rfl rfl rfl ?_
  (simp only [pc48, rs48]; refine ev ?_; try with_reducible exact trivial)

set_option maxRecDepth 100000 in
set_option maxHeartbeats 8000000 in
theorem Tryz.c10 (l : List Lay) : Con Tryz.prog Tryz.L 10 [.sl l.length (lays l)] (.bool true) := by
  refine rule10 Tryz.hL rfl rfl rfl ?_
  (simp only [pc10, rs10]; refine ev ?_; try with_reducible exact trivial)
  refine callF_of Tryz.c11 ?_
  (refine ev ?_; try with_reducible exact trivial)
  refine callF_of (Tryz.c43 l) ?_
  (refine ev ?_; try with_reducible exact trivial)
  refine ⟨fun h => ?_, fun h => ?_⟩
  · refine callF_of Tryz.c11 ?_
    (refine ev ?_; try with_reducible exact trivial)
  · have hf := Classical.not_not.1 h
    have hl : l.length ≤ 1000 := by have := hf.1; omega
    have hs : ∀ x ∈ l, Small x ∧ x.u.length ≤ 1000 := fun x hx => by
      have := hf.2 x hx
      unfold long at this
      rw [decide_eq_false_iff_not] at this
      exact ⟨⟨by omega, by omega⟩, by omega⟩
    have hk := Tryz.c44g l hs
    have hc := Tryz.c45g l fun x hx => (hs x hx).1
    generalize colE l = e at hk hc
    refine callF_of hk ?_
    (refine ev ?_; try with_reducible exact trivial)
    refine callF_of hc ?_
    (refine ev ?_; try with_reducible exact trivial)
    refine ⟨fun he => ?_, fun he => ?_⟩
    · subst he
      refine callF_of (Tryz.c35 l hl hc) ?_
      (refine ev ?_; try with_reducible exact trivial)
      refine callF_of (Tryz.c46 l hl) ?_
      (refine ev ?_; try with_reducible exact trivial)
    · have j1 := Tryz.e17b l e he hc exampleL Tryz.c45ex
      have j2 := Tryz.e17a l e he hc exampleL
      refine callF_of (Tryz.e35 l e he hc) ?_
      (refine ev ?_; try with_reducible exact trivial)
      refine callF_of (Tryz.e21 l e he hc [65]) ?_
      (refine ev ?_; try with_reducible exact trivial)
      refine callF_of (Tryz.e22 l e he hc [65] [66]) ?_
      (refine ev ?_; try with_reducible exact trivial)
      refine callF_of (Tryz.e23 l e he hc [65] [66]) ?_
      (refine ev ?_; try with_reducible exact trivial)
      refine callF_of (Tryz.e24 l e he hc [65] [66]) ?_
      (refine ev ?_; try with_reducible exact trivial)
      refine callF_of (Tryz.e33 l e he hc) ?_
      (refine ev ?_; try with_reducible exact trivial)
      refine callF_of Tryz.c48 ?_
      (refine ev ?_; try with_reducible exact trivial)
      refine callF_of j1 ?_
      (refine ev ?_; try with_reducible exact trivial)
      refine callF_of Tryz.c48 ?_
      (refine ev ?_; try with_reducible exact trivial)
      refine callF_of j2 ?_
      (refine ev ?_; try with_reducible exact trivial)
      refine callF_of (Tryz.e29 l e he hc) ?_
      (refine ev ?_; try with_reducible exact trivial)
      refine callF_of (Tryz.e36 l e he hc) ?_
      (refine ev ?_; try with_reducible exact trivial)
      refine callF_of (Tryz.e13 l e he hc) ?_
      (refine ev ?_; try with_reducible exact trivial)
      refine ⟨by omega, by omega, by omega, by omega, by omega, ?_⟩
      exact dB_t (by omega)
#print axioms Tryz.c10
end Go.Proofs
