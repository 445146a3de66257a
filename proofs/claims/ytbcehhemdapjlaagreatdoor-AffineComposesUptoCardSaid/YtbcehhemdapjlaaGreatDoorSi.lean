/-
 AFFINE: which numbers are right: vector.Check, affine.Check, first. Own work.
-/
import Derived.Test.YtbcehhemdapjlaaGreatDoorPj
import Derived.Test.YtbcehhemdapjlaaGreatDoorSh
import Derived.Test.YtbcehhemdapjlaaGreatDoorSf
set_option linter.unusedVariables false
set_option linter.unusedSimpArgs false
namespace Go.Proofs
open Go Go.Pi Go.RowKit Go.Shelf Go.Ar Go.Mx

/-- three texts -/
structure T3 where
 x : List UInt8
 y : List UInt8
 z : List UInt8
namespace T3
def L (v : T3) : List D := [.str v.x, .str v.y, .str v.z]
def ok (v : T3) : Prop := okR v.x ∧ okR v.y ∧ okR v.z
def sz (v : T3) (k : Nat) : Prop := v.x.length ≤ k ∧ v.y.length ≤ k ∧ v.z.length ≤ k
end T3
def tsD (l : List T3) : List D := l.flatMap T3.L
theorem tsD_len : ∀ l : List T3, (tsD l).length = 3 * l.length
 | [] => rfl
 | v :: l => by
   have := tsD_len l
   simp only [tsD, List.flatMap_cons, List.length_append, List.length_cons] at this ⊢
   rw [this]; simp [T3.L]; omega
theorem tsD_drop : ∀ {l : List T3} {k : Nat} {v : T3}, l[k]? = some v → (tsD l).drop (k * 3) = v.L ++ (tsD l).drop (k * 3 + 3)
 | [], k, v, h => by simp at h
 | a :: l, 0, v, h => by
   simp at h; subst h
   simp [tsD, T3.L]
 | a :: l, k + 1, v, h => by
   have ih := tsD_drop (l := l) (k := k) (v := v) (by simpa using h)
   have e : ∀ n, (tsD (a :: l)).drop (n + 3) = (tsD l).drop n := fun n => by simp [tsD, T3.L, List.drop_succ_cons]
   rw [show (k + 1) * 3 = k * 3 + 3 by omega, e, ih, e]
theorem ldC_ts {l : List T3} {k t : Nat} {v : T3} {N : EP} {E : Env} (h : l[k]? = some v) : ldC true 3 (List.take 3 (List.drop (k * 3) (tsD l))) t N E = N (st1 E t (.agg v.L)) := by
 rw [tsD_drop h]
 simp [ldC, ofCells, T3.L]
theorem Tryz.tnumbers (v : T3) (h : v.sz 1000000) : Con Tryz.prog Tryz.L 146 [.sl 3 v.L] (.int .i64 (chk v.ok)) := by
 obtain ⟨hx, hy, hz⟩ := h
 have c1 := Tryz.rcheck v.x hx; have c2 := Tryz.rcheck v.y hy; have c3 := Tryz.rcheck v.z hz
 refine rule146 Tryz.hL rfl rfl rfl ?_
 simp only [T3.L, pc146, rs146, oU, oC, evX, evY, evZ, forall_const, implies_true, initE, stepF, D.clean, mvF, moF, tkF, shF, ariF, ciF, catF, scF, ebF, eqF, eqOk, eqPr, enF, notF, ngF, cvF, csF, csbF, lenF, lenSF, ixF, iaF, PX.slot, iaAF, faF, ldF, D.mem, stF, bxF, mkSF, boundF, fldF, ixAF, mmF2, D.plain, D.isPure, optAll, D.dull, callVF, splice, D.cells, D.one, sets, resT, D.flat, D.flat0, D.simple, Nat.reduceBNe, Nat.reduceLT, reduceIte, Nat.reduceEqDiff, Nat.reduceAdd, Nat.reduceMul, Nat.reduceSub, Nat.reduceLeDiff, Int.reduceToNat, Int.reduceLT, Int.reduceLE, Int.reduceEq, Int.reduceNeg, Int.reduceSub, Int.reduceAdd, Int.reduceMul, stG_own]
 refine loopF_of (fun E => ∃ i : Int, ((i = 0) ∨ (i = 1 ∧ okR v.x) ∨ (i = 2 ∧ okR v.x ∧ okR v.y) ∨ (i = 3 ∧ v.ok)) ∧ E = [(6, .sl 3 [.str v.x, .str v.y, .str v.z]), (7, .int .i64 3), (8, .int .i64 i)])
  (fun E => match lk E 8 with | .int _ i => (3 - i).toNat | _ => 0) ⟨_, .inl rfl, by simp⟩ ?_
 rintro _ ⟨i, hp, rfl⟩
 rcases hp with rfl | ⟨rfl, h1⟩ | ⟨rfl, h1, h2⟩ | ⟨rfl, h1⟩
 ·(refine ev ?_; try exact ⟨⟩)
  repeat (refine ⟨by decide, ?_⟩)
  refine callF_of c1 ?_
  (refine ev ?_; try exact ⟨⟩)
  refine ⟨fun h => ?_, fun h => ⟨_, .inr (.inl ⟨rfl, chk_0.1 (Classical.not_not.1 h)⟩), by simp⟩⟩
  have h : ¬okR v.x := fun h2 => h (chk_0.2 h2)
  rw [chk_f h, chk_f fun h2 : v.ok => h h2.1]
 ·(refine ev ?_; try exact ⟨⟩)
  repeat (refine ⟨by decide, ?_⟩)
  refine callF_of c2 ?_
  (refine ev ?_; try exact ⟨⟩)
  refine ⟨fun h => ?_, fun h => ⟨_, .inr (.inr (.inl ⟨rfl, h1, chk_0.1 (Classical.not_not.1 h)⟩)), by simp⟩⟩
  have h : ¬okR v.y := fun h2 => h (chk_0.2 h2)
  rw [chk_f h, chk_f fun h2 : v.ok => h h2.2.1]
 ·(refine ev ?_; try exact ⟨⟩)
  repeat (refine ⟨by decide, ?_⟩)
  refine callF_of c3 ?_
  (refine ev ?_; try exact ⟨⟩)
  refine ⟨fun h => ?_, fun h => ⟨_, .inr (.inr (.inr ⟨rfl, h1, h2, chk_0.1 (Classical.not_not.1 h)⟩)), by simp⟩⟩
  have h : ¬okR v.z := fun h2 => h (chk_0.2 h2)
  rw [chk_f h, chk_f fun h2 : v.ok => h h2.2.2]
 ·(refine ev ?_; try exact ⟨⟩)
  rw [chk_t h1]
theorem Tryz.tcheck (v : T3) (h : v.sz 1000000) : Con Tryz.prog Tryz.L 109 [.agg v.L] (.int .i64 (chk v.ok)) := by
 have hn := Tryz.tnumbers v h
 refine rule109 Tryz.hL rfl rfl rfl ?_
 simp only [T3.L, pc109, rs109, oU, oC, evX, evY, evZ, forall_const, implies_true, initE, stepF, D.clean, mvF, moF, tkF, shF, ariF, ciF, catF, scF, ebF, eqF, eqOk, eqPr, enF, notF, ngF, cvF, csF, csbF, lenF, lenSF, ixF, iaF, PX.slot, iaAF, faF, ldF, D.mem, stF, bxF, mkSF, boundF, fldF, ixAF, mmF2, D.plain, D.isPure, optAll, D.dull, callVF, splice, D.cells, D.one, sets, resT, D.flat, D.flat0, D.simple, Nat.reduceBNe, Nat.reduceLT, reduceIte, Nat.reduceEqDiff, Nat.reduceAdd, Nat.reduceMul, Nat.reduceSub, Nat.reduceLeDiff, Int.reduceToNat, Int.reduceLT, Int.reduceLE, Int.reduceEq, Int.reduceNeg, Int.reduceSub, Int.reduceAdd, Int.reduceMul, stG_own] at hn ⊢
 refine callF_of hn ?_
 (refine ev ?_; try exact ⟨⟩)
/-- the texts of a plane -/
def T3.okP (v : T3) (o : List UInt8) : Prop := v.ok ∧ okR o
theorem Tryz.tnumbers4 (v : T3) (o : List UInt8) (h : v.sz 1000000) (ho : o.length ≤ 1000000) : Con Tryz.prog Tryz.L 146 [.sl 4 [.str v.x, .str v.y, .str v.z, .str o]] (.int .i64 (chk (v.okP o))) := by
 obtain ⟨hx, hy, hz⟩ := h
 have c1 := Tryz.rcheck v.x hx; have c2 := Tryz.rcheck v.y hy; have c3 := Tryz.rcheck v.z hz; have c4 := Tryz.rcheck o ho
 refine rule146 Tryz.hL rfl rfl rfl ?_
 simp only [T3.L, pc146, rs146, oU, oC, evX, evY, evZ, forall_const, implies_true, initE, stepF, D.clean, mvF, moF, tkF, shF, ariF, ciF, catF, scF, ebF, eqF, eqOk, eqPr, enF, notF, ngF, cvF, csF, csbF, lenF, lenSF, ixF, iaF, PX.slot, iaAF, faF, ldF, D.mem, stF, bxF, mkSF, boundF, fldF, ixAF, mmF2, D.plain, D.isPure, optAll, D.dull, callVF, splice, D.cells, D.one, sets, resT, D.flat, D.flat0, D.simple, Nat.reduceBNe, Nat.reduceLT, reduceIte, Nat.reduceEqDiff, Nat.reduceAdd, Nat.reduceMul, Nat.reduceSub, Nat.reduceLeDiff, Int.reduceToNat, Int.reduceLT, Int.reduceLE, Int.reduceEq, Int.reduceNeg, Int.reduceSub, Int.reduceAdd, Int.reduceMul, stG_own]
 refine loopF_of (fun E => ∃ i : Int, ((i = 0) ∨ (i = 1 ∧ okR v.x) ∨ (i = 2 ∧ okR v.x ∧ okR v.y) ∨ (i = 3 ∧ v.ok) ∨ (i = 4 ∧ v.okP o)) ∧ E = [(6, .sl 4 [.str v.x, .str v.y, .str v.z, .str o]), (7, .int .i64 4), (8, .int .i64 i)])
  (fun E => match lk E 8 with | .int _ i => (4 - i).toNat | _ => 0) ⟨_, .inl rfl, by simp⟩ ?_
 rintro _ ⟨i, hp, rfl⟩
 rcases hp with rfl | ⟨rfl, h1⟩ | ⟨rfl, h1, h2⟩ | ⟨rfl, h1⟩ | ⟨rfl, h1⟩
 ·(refine ev ?_; try exact ⟨⟩)
  repeat (refine ⟨by decide, ?_⟩)
  refine callF_of c1 ?_
  (refine ev ?_; try exact ⟨⟩)
  refine ⟨fun h => ?_, fun h => ⟨_, .inr (.inl ⟨rfl, chk_0.1 (Classical.not_not.1 h)⟩), by simp⟩⟩
  have h : ¬okR v.x := fun h2 => h (chk_0.2 h2)
  rw [chk_f h, chk_f fun h2 : v.okP o => h h2.1.1]
 ·(refine ev ?_; try exact ⟨⟩)
  repeat (refine ⟨by decide, ?_⟩)
  refine callF_of c2 ?_
  (refine ev ?_; try exact ⟨⟩)
  refine ⟨fun h => ?_, fun h => ⟨_, .inr (.inr (.inl ⟨rfl, h1, chk_0.1 (Classical.not_not.1 h)⟩)), by simp⟩⟩
  have h : ¬okR v.y := fun h2 => h (chk_0.2 h2)
  rw [chk_f h, chk_f fun h2 : v.okP o => h h2.1.2.1]
 ·(refine ev ?_; try exact ⟨⟩)
  repeat (refine ⟨by decide, ?_⟩)
  refine callF_of c3 ?_
  (refine ev ?_; try exact ⟨⟩)
  refine ⟨fun h => ?_, fun h => ⟨_, .inr (.inr (.inr (.inl ⟨rfl, h1, h2, chk_0.1 (Classical.not_not.1 h)⟩))), by simp⟩⟩
  have h : ¬okR v.z := fun h2 => h (chk_0.2 h2)
  rw [chk_f h, chk_f fun h2 : v.okP o => h h2.1.2.2]
 ·(refine ev ?_; try exact ⟨⟩)
  repeat (refine ⟨by decide, ?_⟩)
  refine callF_of c4 ?_
  (refine ev ?_; try exact ⟨⟩)
  refine ⟨fun h => ?_, fun h => ⟨_, .inr (.inr (.inr (.inr ⟨rfl, h1, chk_0.1 (Classical.not_not.1 h)⟩))), by simp⟩⟩
  have h : ¬okR o := fun h2 => h (chk_0.2 h2)
  rw [chk_f h, chk_f fun h2 : v.okP o => h h2.2]
 ·(refine ev ?_; try exact ⟨⟩)
  rw [chk_t h1]
/-! lists of vectors -/
theorem Tryz.tfirstC (v : T3) (h : v.sz 1000000) : Con Tryz.prog Tryz.L 113 [.agg v.L] (.bool (dB (¬v.ok))) := by
 have hc := Tryz.tcheck v h
 refine rule113 Tryz.hL rfl rfl rfl ?_
 simp only [T3.L, pc113, rs113, oU, oC, evX, evY, evZ, forall_const, implies_true, initE, stepF, D.clean, mvF, moF, tkF, shF, ariF, ciF, catF, scF, ebF, eqF, eqOk, eqPr, enF, notF, ngF, cvF, csF, csbF, lenF, lenSF, ixF, iaF, PX.slot, iaAF, faF, ldF, D.mem, stF, bxF, mkSF, boundF, fldF, ixAF, mmF2, D.plain, D.isPure, optAll, D.dull, callVF, splice, D.cells, D.one, sets, resT, D.flat, D.flat0, D.simple, Nat.reduceBNe, Nat.reduceLT, reduceIte, Nat.reduceEqDiff, Nat.reduceAdd, Nat.reduceMul, Nat.reduceSub, Nat.reduceLeDiff, Int.reduceToNat, Int.reduceLT, Int.reduceLE, Int.reduceEq, Int.reduceNeg, Int.reduceSub, Int.reduceAdd, Int.reduceMul, stG_own] at hc ⊢
 refine callF_of hc ?_
 (refine ev ?_; try exact ⟨⟩)
 rw [show (¬chk v.ok = 0) = ¬v.ok from propext (not_congr chk_0)]
/-- the first place that is not right, from k on, or -1 -/
noncomputable def ixT : List T3 → Nat → Int
 | [], _ => -1
 | v :: l, k => @ite Int v.ok (Classical.propDecidable _) (ixT l (k + 1)) k
theorem ixT_cons (v : T3) (l : List T3) (k : Nat) : ixT (v :: l) k = @ite Int v.ok (Classical.propDecidable _) (ixT l (k + 1)) k := rfl
theorem ixT_all : ∀ {l : List T3} {k : Nat}, (0 ≤ ixT l k) ↔ ¬∀ v ∈ l, v.ok
 | [], k => by simp [ixT]
 | a :: l, k => by
   have ih := ixT_all (l := l) (k := k + 1)
   unfold ixT
   by_cases h : a.ok
   ·rw [if_pos h, ih]; simp [h]
   ·rw [if_neg h]
    exact ⟨fun _ h2 => h (h2 a (by simp)), fun _ => by omega⟩
theorem dropT {l : List T3} {k : Nat} {x : T3} (h : l[k]? = some x) : l.drop k = x :: l.drop (k + 1) := by
 obtain ⟨h1, rfl⟩ := List.getElem?_eq_some_iff.1 h
 exact List.drop_eq_getElem_cons h1
theorem Tryz.tindex (l : List T3) (hl : l.length ≤ 1000) (h : ∀ v ∈ l, v.sz 1000000) : Con Tryz.prog Tryz.L 147 [.sl l.length (tsD l), .clo 113 []] (.int .i64 (ixT l 0)) := by
 refine rule147 Tryz.hL rfl rfl rfl ?_
 (simp only [pc147, rs147, oU, oC]; refine ev ?_; try exact ⟨⟩)
 refine loopF_of (fun E => ∃ k : Nat, k ≤ l.length ∧ ixT l 0 = ixT (l.drop k) k ∧ E = [(0, .sl l.length (tsD l)), (1, .clo 113 []), (7, .int .i64 l.length), (8, .int .i64 k)])
  (fun E => match lk E 8 with | .int _ i => l.length - i.toNat | _ => 0) ⟨0, Nat.zero_le _, rfl, rfl⟩ ?_
 rintro _ ⟨k, hk, hi, rfl⟩
 (refine ev ?_; try exact ⟨⟩)
 refine ⟨fun h3 => ?_, fun h3 => ?_⟩
 ·have hkl : k < l.length := by omega
  have hv : l[k]? = some l[k] := List.getElem?_eq_getElem hkl
  have hm := List.getElem_mem hkl
  generalize l[k] = v at hv hm
  have ht := tsD_len l
  rw [dropT hv, ixT_cons] at hi
  refine ⟨⟨by omega, by omega, by omega⟩, ?_⟩
  rw [ldC_ts hv]
  simp only [T3.L, evX, evY, evZ, forall_const, implies_true, initE, stepF, D.clean, mvF, moF, tkF, shF, ariF, ciF, catF, scF, ebF, eqF, eqOk, eqPr, enF, notF, ngF, cvF, csF, csbF, lenF, lenSF, ixF, iaF, PX.slot, iaAF, faF, ldF, D.mem, stF, bxF, mkSF, boundF, fldF, ixAF, mmF2, D.plain, D.isPure, optAll, D.dull, callVF, splice, D.cells, D.one, sets, resT, D.flat, D.flat0, D.simple, Nat.reduceBNe, Nat.reduceLT, reduceIte, Nat.reduceEqDiff, Nat.reduceAdd, Nat.reduceMul, Nat.reduceSub, Nat.reduceLeDiff, Int.reduceToNat, Int.reduceLT, Int.reduceLE, Int.reduceEq, Int.reduceNeg, Int.reduceSub, Int.reduceAdd, Int.reduceMul, stG_own]
  refine callF_of (Tryz.tfirstC v (h v hm)) ?_
  (refine ev ?_; try exact ⟨⟩)
  refine ⟨fun h4 => ?_, fun h4 => ?_⟩
  ·rw [if_neg h4] at hi
   rw [hi]
  ·rw [if_pos (Classical.not_not.1 h4)] at hi
   exact ⟨by omega, ⟨k + 1, by omega, hi, by simp⟩, by omega⟩
 ·rw [List.drop_eq_nil_of_le (by omega)] at hi
  rw [hi]; rfl
theorem Tryz.tfirst (l : List T3) (hl : l.length ≤ 1000) (h : ∀ v ∈ l, v.sz 1000000) : Con Tryz.prog Tryz.L 74 [.sl l.length (tsD l)] (.int .i64 (chk (∀ v ∈ l, v.ok))) := by
 have h1 := Tryz.tindex l hl h
 have h2 : Con Tryz.prog Tryz.L 112 [.sl l.length (tsD l), .clo 113 []] (.bool (dB (0 ≤ ixT l 0))) := by
  refine rule112 Tryz.hL rfl rfl rfl ?_
  (simp only [pc112, rs112, oU, oC]; refine ev ?_; try exact ⟨⟩)
  refine callF_of h1 ?_
  (refine ev ?_; try exact ⟨⟩)
 refine rule74 Tryz.hL rfl rfl rfl ?_
 (simp only [pc74, rs74, oU, oC]; refine ev ?_; try exact ⟨⟩)
 refine callF_of h2 ?_
 (refine ev ?_; try exact ⟨⟩)
 refine ⟨fun h3 => by rw [chk_f (ixT_all.1 h3)], fun h3 => by rw [chk_t (Classical.not_not.1 fun h4 => h3 (ixT_all.2 h4))]⟩
/-- the texts of a map -/
structure TM where
 a : T3
 b : T3
 c : T3
 s : T3
namespace TM
def L (m : TM) : List D := [.str m.a.x, .str m.a.y, .str m.a.z, .str m.b.x, .str m.b.y, .str m.b.z, .str m.c.x, .str m.c.y, .str m.c.z, .str m.s.x, .str m.s.y, .str m.s.z]
def ok (m : TM) : Prop := m.a.ok ∧ m.b.ok ∧ m.c.ok ∧ m.s.ok
def sz (m : TM) (k : Nat) : Prop := m.a.sz k ∧ m.b.sz k ∧ m.c.sz k ∧ m.s.sz k
end TM
theorem all4 {p : T3 → Prop} {a b c d : T3} : (∀ v ∈ [a, b, c, d], p v) ↔ p a ∧ p b ∧ p c ∧ p d := by simp
theorem all2 {p : T3 → Prop} {a b : T3} : (∀ v ∈ [a, b], p v) ↔ p a ∧ p b := by simp
theorem all1 {p : T3 → Prop} {a : T3} : (∀ v ∈ [a], p v) ↔ p a := by simp
theorem Tryz.acheck (m : TM) (h : m.sz 1000000) : Con Tryz.prog Tryz.L 54 [.agg m.L] (.int .i64 (chk m.ok)) := by
 have hf := Tryz.tfirst [m.a, m.b, m.c, m.s] (by simp) (all4.2 h)
 rw [show (∀ v ∈ [m.a, m.b, m.c, m.s], v.ok) = m.ok from propext all4] at hf
 refine rule54 Tryz.hL rfl rfl rfl ?_
 simp only [TM.L, pc54, rs54, oU, oC, evX, evY, evZ, forall_const, implies_true, initE, stepF, D.clean, mvF, moF, tkF, shF, ariF, ciF, catF, scF, ebF, eqF, eqOk, eqPr, enF, notF, ngF, cvF, csF, csbF, lenF, lenSF, ixF, iaF, PX.slot, iaAF, faF, ldF, D.mem, stF, bxF, mkSF, boundF, fldF, ixAF, mmF2, D.plain, D.isPure, optAll, D.dull, callVF, splice, D.cells, D.one, sets, resT, D.flat, D.flat0, D.simple, Nat.reduceBNe, Nat.reduceLT, reduceIte, Nat.reduceEqDiff, Nat.reduceAdd, Nat.reduceMul, Nat.reduceSub, Nat.reduceLeDiff, Int.reduceToNat, Int.reduceLT, Int.reduceLE, Int.reduceEq, Int.reduceNeg, Int.reduceSub, Int.reduceAdd, Int.reduceMul, stG_own]
 repeat (refine ⟨by decide, ?_⟩)
 refine callF_of hf ?_
 (refine ev ?_; try exact ⟨⟩)
end Go.Proofs

/-
 AFFINE: the functions of the package affine for right numbers, printed by tools/aff3.py. Own work.
-/
namespace Go.Proofs
open Go Go.Pi Go.RowKit Go.Shelf Go.Ar Go.Mx

def M3.rd (k : Nat) (m : M3) : Prop := m.g.rd k ∧ m.s.rd k
theorem G3.rd_mono {k l : Nat} {g : G3} (h : g.rd k) (h' : k ≤ l) : g.rd l := ⟨V3.rd_mono h.1 h', V3.rd_mono h.2.1 h', V3.rd_mono h.2.2 h'⟩
theorem M3.rd_mono {k l : Nat} {m : M3} (h : m.rd k) (h' : k ≤ l) : m.rd l := ⟨G3.rd_mono h.1 h', V3.rd_mono h.2 h'⟩
def V3.t (v : V3) : T3 := ⟨rt v.x, rt v.y, rt v.z⟩
def M3.t (m : M3) : TM := ⟨m.g.a.t, m.g.b.t, m.g.c.t, m.s.t⟩
theorem V3.t_ok (v : V3) : v.t.ok ↔ v.rd 200 := by
 unfold T3.ok V3.rd V3.t
 rw [okR_rt, okR_rt, okR_rt]
theorem M3.t_ok (m : M3) : m.t.ok ↔ m.rd 200 := by
 unfold TM.ok M3.rd G3.rd M3.t
 rw [V3.t_ok, V3.t_ok, V3.t_ok, V3.t_ok]
 exact ⟨fun h => ⟨⟨h.1, h.2.1, h.2.2.1⟩, h.2.2.2⟩, fun h => ⟨h.1.1, h.1.2.1, h.1.2.2, h.2⟩⟩
theorem V3.t_sz {k : Nat} {v : V3} (h : v.rd k) (hk : k ≤ 1000) : v.t.sz 1000000 :=
 ⟨by have := rt_len v.x; have := h.1; show (rt v.x).length ≤ _; omega, by have := rt_len v.y; have := h.2.1; show (rt v.y).length ≤ _; omega, by have := rt_len v.z; have := h.2.2; show (rt v.z).length ≤ _; omega⟩
theorem M3.t_sz {k : Nat} {m : M3} (h : m.rd k) (hk : k ≤ 1000) : m.t.sz 1000000 := ⟨V3.t_sz h.1.1 hk, V3.t_sz h.1.2.1 hk, V3.t_sz h.1.2.2 hk, V3.t_sz h.2 hk⟩
theorem Tryz.avcheck (v : V3) (h : v.rd 200) : Con Tryz.prog Tryz.L 109 [.agg v.L] (.int .i64 0) := by
 have := Tryz.tcheck v.t (V3.t_sz h (by decide))
 rw [chk_t ((V3.t_ok v).2 h)] at this
 exact this
theorem Tryz.amcheck (m : M3) (h : m.rd 200) : Con Tryz.prog Tryz.L 54 [.agg m.L] (.int .i64 0) := by
 have := Tryz.acheck m.t (M3.t_sz h (by decide))
 rw [chk_t ((M3.t_ok m).2 h)] at this
 exact this
theorem rd_inv {k : Nat} {q : Rat} (h : rd q ≤ k) (h0 : q ≠ 0) : rd (1 / q) ≤ k + 1 := by
 obtain ⟨u, d, h1, h2, h3, h4⟩ := nbk h
 have hu : u ≠ 0 := fun e => by
  rw [e] at h4
  rcases Rat.mul_eq_zero.1 (h4.trans (by rfl : ((0 : Int) : Rat) = 0)) with h | h
  ·exact h0 h
  ·have : d = 0 := by exact_mod_cast h
   omega
 have hi := Rat.mul_inv_cancel _ h0
 have key : NB k k (1 / q) := by
  rcases Int.lt_or_le u 0 with hn | hp
  ·refine ⟨-(d : Int), u.natAbs, by omega, h3, by omega, ?_⟩
   have e3 : ((u.natAbs : Nat) : Rat) = -(u : Rat) := by
    rw [← Rat.intCast_neg, ← Rat.intCast_natCast]; congr 1; omega
   rw [e3, Rat.div_def, Rat.intCast_neg, Rat.intCast_natCast, ← h4]
   generalize q⁻¹ = z at *
   grind
  ·refine ⟨(d : Int), u.natAbs, by omega, h3, by omega, ?_⟩
   have e3 : ((u.natAbs : Nat) : Rat) = (u : Rat) := by
    rw [← Rat.intCast_natCast]; congr 1; omega
   rw [e3, Rat.div_def, Rat.intCast_natCast, ← h4]
   generalize q⁻¹ = z at *
   grind
 have := rd_nb key
 omega
theorem G3.rd_col {k : Nat} {g : G3} (h : g.rd k) (i : Nat) : (g.col i).rd k := ⟨V3.rd_at h.1 i, V3.rd_at h.2.1 i, V3.rd_at h.2.2 i⟩
theorem G3.rd_tr {k : Nat} {g : G3} (h : g.rd k) : g.tr.rd k := ⟨G3.rd_col h 0, G3.rd_col h 1, G3.rd_col h 2⟩
theorem G3.rd_app {k l : Nat} {g : G3} {v : V3} (h : g.rd k) (h' : v.rd l) : (g.app v).rd (3 * (k + l + 1) + 4) := ⟨V3.rd_dot h.1 h', V3.rd_dot h.2.1 h', V3.rd_dot h.2.2 h'⟩
theorem V3.rd_mulq {k l : Nat} {v : V3} {q : Rat} (h : v.rd k) (h' : Go.Ar.rd q ≤ l) : (v.mul q).rd (k + l + 1) := ⟨rd_mul h.1 h', rd_mul h.2.1 h', rd_mul h.2.2 h'⟩
def G3.one : G3 := ⟨⟨1, 0, 0⟩, ⟨0, 1, 0⟩, ⟨0, 0, 1⟩⟩
theorem rt1 : rt 1 = [49] := rt_one.2 rfl
theorem rt0 : rt 0 = [48] := rt_zero.2 rfl
set_option maxHeartbeats 2000000 in
theorem Tryz.amade (g : G3) (s : V3) (hg : g.rd 200) (hs : s.rd 200) : Con Tryz.prog Tryz.L 75 [.agg g.L, .agg s.L] (.tup [.agg (M3.mk g s).L, .int .i64 0]) := by
 have va := Tryz.avector g.a
 have vb := Tryz.avector g.b
 have vc := Tryz.avector g.c
 have vs := Tryz.avector s
 have ck := Tryz.amcheck ⟨g, s⟩ ⟨hg, hs⟩
 refine rule75 Tryz.hL rfl rfl rfl ?_
 simp only [V3.L, G3.L, M3.L, pc75, rs75, oU, oC, evX, evY, evZ, forall_const, implies_true, initE, stepF, D.clean, mvF, moF, tkF, shF, ariF, ciF, catF, scF, ebF, eqF, eqOk, eqPr, enF, notF, ngF, cvF, csF, csbF, lenF, lenSF, ixF, iaF, PX.slot, iaAF, faF, ldF, D.mem, stF, bxF, mkSF, boundF, fldF, ixAF, mmF2, D.plain, D.isPure, optAll, D.dull, callVF, splice, D.cells, D.one, sets, resT, D.flat, D.flat0, D.simple, Nat.reduceBNe, Nat.reduceLT, reduceIte, Nat.reduceEqDiff, Nat.reduceAdd, Nat.reduceMul, Nat.reduceSub, Nat.reduceLeDiff, Int.reduceToNat, Int.reduceLT, Int.reduceLE, Int.reduceEq, Int.reduceNeg, Int.reduceSub, Int.reduceAdd, Int.reduceMul, stG_own] at va vb vc vs ck ⊢
 repeat (refine ⟨by decide, ?_⟩)
 refine callF_of va ?_
 (refine ev ?_; try exact ⟨⟩)
 repeat (refine ⟨by decide, ?_⟩)
 refine callF_of vb ?_
 (refine ev ?_; try exact ⟨⟩)
 repeat (refine ⟨by decide, ?_⟩)
 refine callF_of vc ?_
 (refine ev ?_; try exact ⟨⟩)
 repeat (refine ⟨by decide, ?_⟩)
 refine callF_of vs ?_
 (refine ev ?_; try exact ⟨⟩)
 repeat (refine ⟨by decide, ?_⟩)
 refine callF_of ck ?_
 (refine ev ?_; try exact ⟨⟩)
 all_goals rfl
set_option maxHeartbeats 2000000 in
theorem Tryz.aplace (v : V3) (hv : v.rd 200) : Con Tryz.prog Tryz.L 67 [.agg v.L] (.tup [.agg v.L, .int .i64 0]) := by
 have vv := Tryz.avector v
 have ck := Tryz.avcheck v hv
 refine rule67 Tryz.hL rfl rfl rfl ?_
 simp only [V3.L, G3.L, M3.L, pc67, rs67, oU, oC, evX, evY, evZ, forall_const, implies_true, initE, stepF, D.clean, mvF, moF, tkF, shF, ariF, ciF, catF, scF, ebF, eqF, eqOk, eqPr, enF, notF, ngF, cvF, csF, csbF, lenF, lenSF, ixF, iaF, PX.slot, iaAF, faF, ldF, D.mem, stF, bxF, mkSF, boundF, fldF, ixAF, mmF2, D.plain, D.isPure, optAll, D.dull, callVF, splice, D.cells, D.one, sets, resT, D.flat, D.flat0, D.simple, Nat.reduceBNe, Nat.reduceLT, reduceIte, Nat.reduceEqDiff, Nat.reduceAdd, Nat.reduceMul, Nat.reduceSub, Nat.reduceLeDiff, Int.reduceToNat, Int.reduceLT, Int.reduceLE, Int.reduceEq, Int.reduceNeg, Int.reduceSub, Int.reduceAdd, Int.reduceMul, stG_own] at vv ck ⊢
 repeat (refine ⟨by decide, ?_⟩)
 refine callF_of vv ?_
 (refine ev ?_; try exact ⟨⟩)
 repeat (refine ⟨by decide, ?_⟩)
 refine callF_of ck ?_
 (refine ev ?_; try exact ⟨⟩)
 all_goals rfl
set_option maxHeartbeats 2000000 in
theorem Tryz.aunit  : Con Tryz.prog Tryz.L 60 [] (.agg G3.one.L) := by
 refine rule60 Tryz.hL rfl rfl rfl ?_
 simp only [V3.L, G3.L, M3.L, G3.one, rt1, rt0, pc60, rs60, oU, oC, evX, evY, evZ, forall_const, implies_true, initE, stepF, D.clean, mvF, moF, tkF, shF, ariF, ciF, catF, scF, ebF, eqF, eqOk, eqPr, enF, notF, ngF, cvF, csF, csbF, lenF, lenSF, ixF, iaF, PX.slot, iaAF, faF, ldF, D.mem, stF, bxF, mkSF, boundF, fldF, ixAF, mmF2, D.plain, D.isPure, optAll, D.dull, callVF, splice, D.cells, D.one, sets, resT, D.flat, D.flat0, D.simple, Nat.reduceBNe, Nat.reduceLT, reduceIte, Nat.reduceEqDiff, Nat.reduceAdd, Nat.reduceMul, Nat.reduceSub, Nat.reduceLeDiff, Int.reduceToNat, Int.reduceLT, Int.reduceLE, Int.reduceEq, Int.reduceNeg, Int.reduceSub, Int.reduceAdd, Int.reduceMul, stG_own]
 repeat (refine ⟨by decide, ?_⟩)
 all_goals rfl
theorem G3.rd_one : G3.one.rd 1 := ⟨⟨by decide +kernel, by decide +kernel, by decide +kernel⟩, ⟨by decide +kernel, by decide +kernel, by decide +kernel⟩, ⟨by decide +kernel, by decide +kernel, by decide +kernel⟩⟩
theorem V3.rd_zero : V3.zero.rd 1 := ⟨by decide +kernel, by decide +kernel, by decide +kernel⟩
set_option maxHeartbeats 2000000 in
theorem Tryz.acheckWith (m : M3) (v : V3) (hm : m.rd 200) (hv : v.rd 200) : Con Tryz.prog Tryz.L 71 [.agg m.L, .agg v.L] (.int .i64 0) := by
 have ck := Tryz.amcheck m hm
 have fi := Tryz.tfirst [v.t] (by simp) (all1.2 (V3.t_sz hv (by decide)))
 rw [chk_t (all1.2 ((V3.t_ok v).2 hv))] at fi
 have fi : Con Tryz.prog Tryz.L 74 [.sl 1 v.L] (.int .i64 0) := fi
 refine rule71 Tryz.hL rfl rfl rfl ?_
 simp only [V3.L, G3.L, M3.L, pc71, rs71, oU, oC, evX, evY, evZ, forall_const, implies_true, initE, stepF, D.clean, mvF, moF, tkF, shF, ariF, ciF, catF, scF, ebF, eqF, eqOk, eqPr, enF, notF, ngF, cvF, csF, csbF, lenF, lenSF, ixF, iaF, PX.slot, iaAF, faF, ldF, D.mem, stF, bxF, mkSF, boundF, fldF, ixAF, mmF2, D.plain, D.isPure, optAll, D.dull, callVF, splice, D.cells, D.one, sets, resT, D.flat, D.flat0, D.simple, Nat.reduceBNe, Nat.reduceLT, reduceIte, Nat.reduceEqDiff, Nat.reduceAdd, Nat.reduceMul, Nat.reduceSub, Nat.reduceLeDiff, Int.reduceToNat, Int.reduceLT, Int.reduceLE, Int.reduceEq, Int.reduceNeg, Int.reduceSub, Int.reduceAdd, Int.reduceMul, stG_own] at ck fi ⊢
 repeat (refine ⟨by decide, ?_⟩)
 refine callF_of ck ?_
 (refine ev ?_; try exact ⟨⟩)
 repeat (refine ⟨by decide, ?_⟩)
 refine callF_of fi ?_
 (refine ev ?_; try exact ⟨⟩)
 all_goals rfl
set_option maxHeartbeats 2000000 in
theorem Tryz.aApply (m : M3) (v : V3) (hm : m.rd 100) (hv : v.rd 100) (hr : ((m.g.app v).add m.s).rd 200) : Con Tryz.prog Tryz.L 20 [.agg m.L, .agg v.L] (.tup [.agg ((m.g.app v).add m.s).L, .int .i64 0]) := by
 have ck := Tryz.acheckWith m v (M3.rd_mono hm (by decide)) (V3.rd_mono hv (by decide))
 have ro := Tryz.arows m
 have o1 := Tryz.aof v
 have ap := Tryz.aapp m.g v hm.1 hv (by decide)
 have o2 := Tryz.aof m.s
 have ad := Tryz.aadd (m.g.app v) m.s (G3.rd_app hm.1 hv) hm.2 (by decide) (by decide)
 have pl := Tryz.aplace ((m.g.app v).add m.s) hr
 refine rule20 Tryz.hL rfl rfl rfl ?_
 simp only [V3.L, G3.L, M3.L, pc20, rs20, oU, oC, evX, evY, evZ, forall_const, implies_true, initE, stepF, D.clean, mvF, moF, tkF, shF, ariF, ciF, catF, scF, ebF, eqF, eqOk, eqPr, enF, notF, ngF, cvF, csF, csbF, lenF, lenSF, ixF, iaF, PX.slot, iaAF, faF, ldF, D.mem, stF, bxF, mkSF, boundF, fldF, ixAF, mmF2, D.plain, D.isPure, optAll, D.dull, callVF, splice, D.cells, D.one, sets, resT, D.flat, D.flat0, D.simple, Nat.reduceBNe, Nat.reduceLT, reduceIte, Nat.reduceEqDiff, Nat.reduceAdd, Nat.reduceMul, Nat.reduceSub, Nat.reduceLeDiff, Int.reduceToNat, Int.reduceLT, Int.reduceLE, Int.reduceEq, Int.reduceNeg, Int.reduceSub, Int.reduceAdd, Int.reduceMul, stG_own] at ck ro o1 ap o2 ad pl ⊢
 repeat (refine ⟨by decide, ?_⟩)
 refine callF_of ck ?_
 (refine ev ?_; try exact ⟨⟩)
 repeat (refine ⟨by decide, ?_⟩)
 refine callF_of ro ?_
 (refine ev ?_; try exact ⟨⟩)
 repeat (refine ⟨by decide, ?_⟩)
 refine callF_of o1 ?_
 (refine ev ?_; try exact ⟨⟩)
 repeat (refine ⟨by decide, ?_⟩)
 refine callF_of ap ?_
 (refine ev ?_; try exact ⟨⟩)
 repeat (refine ⟨by decide, ?_⟩)
 refine callF_of o2 ?_
 (refine ev ?_; try exact ⟨⟩)
 repeat (refine ⟨by decide, ?_⟩)
 refine callF_of ad ?_
 (refine ev ?_; try exact ⟨⟩)
 repeat (refine ⟨by decide, ?_⟩)
 refine callF_of pl ?_
 (refine ev ?_; try exact ⟨⟩)
 all_goals rfl
set_option maxHeartbeats 2000000 in
theorem Tryz.aDet (m : M3) (hm : m.rd 100) (hr : rd m.g.det ≤ 200) : Con Tryz.prog Tryz.L 45 [.agg m.L] (.tup [.str (rt m.g.det), .int .i64 0]) := by
 have ck := Tryz.amcheck m (M3.rd_mono hm (by decide))
 have ro := Tryz.arows m
 have dt := Tryz.adet m.g hm.1 (by decide)
 have rc := Tryz.rcheckQ m.g.det hr
 refine rule45 Tryz.hL rfl rfl rfl ?_
 simp only [V3.L, G3.L, M3.L, pc45, rs45, oU, oC, evX, evY, evZ, forall_const, implies_true, initE, stepF, D.clean, mvF, moF, tkF, shF, ariF, ciF, catF, scF, ebF, eqF, eqOk, eqPr, enF, notF, ngF, cvF, csF, csbF, lenF, lenSF, ixF, iaF, PX.slot, iaAF, faF, ldF, D.mem, stF, bxF, mkSF, boundF, fldF, ixAF, mmF2, D.plain, D.isPure, optAll, D.dull, callVF, splice, D.cells, D.one, sets, resT, D.flat, D.flat0, D.simple, Nat.reduceBNe, Nat.reduceLT, reduceIte, Nat.reduceEqDiff, Nat.reduceAdd, Nat.reduceMul, Nat.reduceSub, Nat.reduceLeDiff, Int.reduceToNat, Int.reduceLT, Int.reduceLE, Int.reduceEq, Int.reduceNeg, Int.reduceSub, Int.reduceAdd, Int.reduceMul, stG_own] at ck ro dt rc ⊢
 repeat (refine ⟨by decide, ?_⟩)
 refine callF_of ck ?_
 (refine ev ?_; try exact ⟨⟩)
 repeat (refine ⟨by decide, ?_⟩)
 refine callF_of ro ?_
 (refine ev ?_; try exact ⟨⟩)
 repeat (refine ⟨by decide, ?_⟩)
 refine callF_of dt ?_
 (refine ev ?_; try exact ⟨⟩)
 repeat (refine ⟨by decide, ?_⟩)
 refine callF_of rc ?_
 (refine ev ?_; try exact ⟨⟩)
 all_goals rfl
end Go.Proofs

/-
 AFFINE: planes (CheckPlane, pulled, Pull, Push), printed by tools/aff4.py. Own work.
-/
namespace Go.Proofs
open Go Go.Pi Go.RowKit Go.Shelf Go.Ar Go.Mx

/-- a plane -/
def pL (v : V3) (o : Rat) : List D := [.str (rt v.x), .str (rt v.y), .str (rt v.z), .str (rt o)]
def V3.isZ (v : V3) : Prop := v.x = 0 ∧ v.y = 0 ∧ v.z = 0
theorem Tryz.avzero (v : V3) : Con Tryz.prog Tryz.L 164 [.agg v.L] (.bool (dB v.isZ)) := by
 refine rule164 Tryz.hL rfl rfl rfl ?_
 simp only [V3.L, pc164, rs164, oU, oC, evX, evY, evZ, forall_const, implies_true, initE, stepF, D.clean, mvF, moF, tkF, shF, ariF, ciF, catF, scF, ebF, eqF, eqOk, eqPr, enF, notF, ngF, cvF, csF, csbF, lenF, lenSF, ixF, iaF, PX.slot, iaAF, faF, ldF, D.mem, stF, bxF, mkSF, boundF, fldF, ixAF, mmF2, D.plain, D.isPure, optAll, D.dull, callVF, splice, D.cells, D.one, sets, resT, D.flat, D.flat0, D.simple, Nat.reduceBNe, Nat.reduceLT, reduceIte, Nat.reduceEqDiff, Nat.reduceAdd, Nat.reduceMul, Nat.reduceSub, Nat.reduceLeDiff, Int.reduceToNat, Int.reduceLT, Int.reduceLE, Int.reduceEq, Int.reduceNeg, Int.reduceSub, Int.reduceAdd, Int.reduceMul, stG_own, rt_zero]
 refine ⟨fun hx => ⟨fun hy => ?_, fun hy => (dB_not.2 fun h => hy h.2.1).symm⟩, fun hx => (dB_not.2 fun h => hx h.1).symm⟩
 rw [show v.isZ = (v.z = 0) from propext ⟨fun h => h.2.2, fun h => ⟨hx, hy, h⟩⟩]
theorem Tryz.atzero (v : V3) : Con Tryz.prog Tryz.L 135 [.agg v.L] (.bool (dB v.isZ)) := by
 refine rule135 Tryz.hL rfl rfl rfl ?_
 simp only [V3.L, pc135, rs135, oU, oC, evX, evY, evZ, forall_const, implies_true, initE, stepF, D.clean, mvF, moF, tkF, shF, ariF, ciF, catF, scF, ebF, eqF, eqOk, eqPr, enF, notF, ngF, cvF, csF, csbF, lenF, lenSF, ixF, iaF, PX.slot, iaAF, faF, ldF, D.mem, stF, bxF, mkSF, boundF, fldF, ixAF, mmF2, D.plain, D.isPure, optAll, D.dull, callVF, splice, D.cells, D.one, sets, resT, D.flat, D.flat0, D.simple, Nat.reduceBNe, Nat.reduceLT, reduceIte, Nat.reduceEqDiff, Nat.reduceAdd, Nat.reduceMul, Nat.reduceSub, Nat.reduceLeDiff, Int.reduceToNat, Int.reduceLT, Int.reduceLE, Int.reduceEq, Int.reduceNeg, Int.reduceSub, Int.reduceAdd, Int.reduceMul, stG_own, rt_zero]
 rfl
theorem Tryz.anum4 (v : V3) (o : Rat) (hv : v.rd 200) (ho : rd o ≤ 200) : Con Tryz.prog Tryz.L 146 [.sl 4 (pL v o)] (.int .i64 0) := by
 have := Tryz.tnumbers4 v.t (rt o) (V3.t_sz hv (by decide)) (by have := rt_len o; omega)
 rw [chk_t ⟨(V3.t_ok v).2 hv, (okR_rt o).2 ho⟩] at this
 exact this
set_option maxHeartbeats 2000000 in
theorem Tryz.acp0 (v : V3) (o : Rat) (hv : v.rd 200) (ho : rd o ≤ 200) (hz : ¬v.isZ) : Con Tryz.prog Tryz.L 134 [.agg (pL v o)] (.int .i64 0) := by
 have n4 := Tryz.anum4 v o hv ho
 have vz := Tryz.avzero v
 rw [dB_not.2 hz] at vz
 refine rule134 Tryz.hL rfl rfl rfl ?_
 simp only [V3.L, G3.L, M3.L, pL, pc134, rs134, oU, oC, evX, evY, evZ, forall_const, implies_true, initE, stepF, D.clean, mvF, moF, tkF, shF, ariF, ciF, catF, scF, ebF, eqF, eqOk, eqPr, enF, notF, ngF, cvF, csF, csbF, lenF, lenSF, ixF, iaF, PX.slot, iaAF, faF, ldF, D.mem, stF, bxF, mkSF, boundF, fldF, ixAF, mmF2, D.plain, D.isPure, optAll, D.dull, callVF, splice, D.cells, D.one, sets, resT, D.flat, D.flat0, D.simple, Nat.reduceBNe, Nat.reduceLT, reduceIte, Nat.reduceEqDiff, Nat.reduceAdd, Nat.reduceMul, Nat.reduceSub, Nat.reduceLeDiff, Int.reduceToNat, Int.reduceLT, Int.reduceLE, Int.reduceEq, Int.reduceNeg, Int.reduceSub, Int.reduceAdd, Int.reduceMul, stG_own] at n4 vz ⊢
 repeat (refine ⟨by decide, ?_⟩)
 refine callF_of n4 ?_
 (refine ev ?_; try exact ⟨⟩)
 repeat (refine ⟨by decide, ?_⟩)
 refine callF_of vz ?_
 (refine ev ?_; try exact ⟨⟩)
 all_goals rfl
set_option maxHeartbeats 2000000 in
theorem Tryz.acheckP0 (m : M3) (v : V3) (o : Rat) (hv : v.rd 200) (ho : rd o ≤ 200) (hm : m.rd 200) (hz : ¬v.isZ) : Con Tryz.prog Tryz.L 89 [.agg m.L, .agg (pL v o)] (.int .i64 0) := by
 have ck := Tryz.amcheck m hm
 have cp := Tryz.acp0 v o hv ho hz
 refine rule89 Tryz.hL rfl rfl rfl ?_
 simp only [V3.L, G3.L, M3.L, pL, pc89, rs89, oU, oC, evX, evY, evZ, forall_const, implies_true, initE, stepF, D.clean, mvF, moF, tkF, shF, ariF, ciF, catF, scF, ebF, eqF, eqOk, eqPr, enF, notF, ngF, cvF, csF, csbF, lenF, lenSF, ixF, iaF, PX.slot, iaAF, faF, ldF, D.mem, stF, bxF, mkSF, boundF, fldF, ixAF, mmF2, D.plain, D.isPure, optAll, D.dull, callVF, splice, D.cells, D.one, sets, resT, D.flat, D.flat0, D.simple, Nat.reduceBNe, Nat.reduceLT, reduceIte, Nat.reduceEqDiff, Nat.reduceAdd, Nat.reduceMul, Nat.reduceSub, Nat.reduceLeDiff, Int.reduceToNat, Int.reduceLT, Int.reduceLE, Int.reduceEq, Int.reduceNeg, Int.reduceSub, Int.reduceAdd, Int.reduceMul, stG_own] at ck cp ⊢
 repeat (refine ⟨by decide, ?_⟩)
 refine callF_of ck ?_
 (refine ev ?_; try exact ⟨⟩)
 repeat (refine ⟨by decide, ?_⟩)
 refine callF_of cp ?_
 (refine ev ?_; try exact ⟨⟩)
 all_goals rfl
set_option maxHeartbeats 2000000 in
theorem Tryz.apulled {k : Nat} (g : G3) (s v : V3) (o : Rat) (hg : g.rd k) (hs : s.rd k) (hk : k ≤ 700) (hv : v.rd 100) (ho : rd o ≤ 100) (hz : ¬(g.tr.app v).isZ) (h1 : (g.tr.app v).rd 200) (h2 : rd (o - v.dot s) ≤ 200) : Con Tryz.prog Tryz.L 90 [.agg g.L, .agg s.L, .agg (pL v o)] (.tup [.agg (pL (g.tr.app v) (o - v.dot s)), .int .i64 0]) := by
 have tu := Tryz.aturned g
 have ov := Tryz.aof v
 have ap := Tryz.aapp g.tr v (G3.rd_tr hg) hv (by omega)
 have zz := Tryz.atzero (g.tr.app v)
 rw [dB_not.2 hz] at zz
 have ve := Tryz.avector (g.tr.app v)
 have dt := Tryz.adot v s hv hs (by omega)
 have su := Tryz.rsub o (v.dot s) (by omega) (by have := V3.rd_dot hv hs; omega)
 have cp := Tryz.acp0 (g.tr.app v) (o - v.dot s) h1 h2 hz
 refine rule90 Tryz.hL rfl rfl rfl ?_
 simp only [V3.L, G3.L, M3.L, pL, pc90, rs90, oU, oC, evX, evY, evZ, forall_const, implies_true, initE, stepF, D.clean, mvF, moF, tkF, shF, ariF, ciF, catF, scF, ebF, eqF, eqOk, eqPr, enF, notF, ngF, cvF, csF, csbF, lenF, lenSF, ixF, iaF, PX.slot, iaAF, faF, ldF, D.mem, stF, bxF, mkSF, boundF, fldF, ixAF, mmF2, D.plain, D.isPure, optAll, D.dull, callVF, splice, D.cells, D.one, sets, resT, D.flat, D.flat0, D.simple, Nat.reduceBNe, Nat.reduceLT, reduceIte, Nat.reduceEqDiff, Nat.reduceAdd, Nat.reduceMul, Nat.reduceSub, Nat.reduceLeDiff, Int.reduceToNat, Int.reduceLT, Int.reduceLE, Int.reduceEq, Int.reduceNeg, Int.reduceSub, Int.reduceAdd, Int.reduceMul, stG_own] at tu ov ap zz ve dt su cp ⊢
 repeat (refine ⟨by decide, ?_⟩)
 refine callF_of tu ?_
 (refine ev ?_; try exact ⟨⟩)
 repeat (refine ⟨by decide, ?_⟩)
 refine callF_of ov ?_
 (refine ev ?_; try exact ⟨⟩)
 repeat (refine ⟨by decide, ?_⟩)
 refine callF_of ap ?_
 (refine ev ?_; try exact ⟨⟩)
 repeat (refine ⟨by decide, ?_⟩)
 refine callF_of zz ?_
 (refine ev ?_; try exact ⟨⟩)
 repeat (refine ⟨by decide, ?_⟩)
 refine callF_of ve ?_
 (refine ev ?_; try exact ⟨⟩)
 repeat (refine ⟨by decide, ?_⟩)
 refine callF_of ov ?_
 (refine ev ?_; try exact ⟨⟩)
 repeat (refine ⟨by decide, ?_⟩)
 refine callF_of dt ?_
 (refine ev ?_; try exact ⟨⟩)
 repeat (refine ⟨by decide, ?_⟩)
 refine callF_of su ?_
 (refine ev ?_; try exact ⟨⟩)
 repeat (refine ⟨by decide, ?_⟩)
 refine callF_of cp ?_
 (refine ev ?_; try exact ⟨⟩)
 all_goals rfl
set_option maxHeartbeats 2000000 in
theorem Tryz.aPull (m : M3) (v : V3) (o : Rat) (hm : m.rd 100) (hv : v.rd 100) (ho : rd o ≤ 100) (hz : ¬v.isZ) (hn : ¬(m.g.tr.app v).isZ) (h1 : (m.g.tr.app v).rd 200) (h2 : rd (o - v.dot m.s) ≤ 200) : Con Tryz.prog Tryz.L 41 [.agg m.L, .agg (pL v o)] (.tup [.agg (pL (m.g.tr.app v) (o - v.dot m.s)), .int .i64 0]) := by
 have ck := Tryz.acheckP0 m v o (V3.rd_mono hv (by decide)) (by omega) (M3.rd_mono hm (by decide)) hz
 have ro := Tryz.arows m
 have os := Tryz.aof m.s
 have pu := Tryz.apulled m.g m.s v o hm.1 hm.2 (by decide) hv ho hn h1 h2
 refine rule41 Tryz.hL rfl rfl rfl ?_
 simp only [V3.L, G3.L, M3.L, pL, pc41, rs41, oU, oC, evX, evY, evZ, forall_const, implies_true, initE, stepF, D.clean, mvF, moF, tkF, shF, ariF, ciF, catF, scF, ebF, eqF, eqOk, eqPr, enF, notF, ngF, cvF, csF, csbF, lenF, lenSF, ixF, iaF, PX.slot, iaAF, faF, ldF, D.mem, stF, bxF, mkSF, boundF, fldF, ixAF, mmF2, D.plain, D.isPure, optAll, D.dull, callVF, splice, D.cells, D.one, sets, resT, D.flat, D.flat0, D.simple, Nat.reduceBNe, Nat.reduceLT, reduceIte, Nat.reduceEqDiff, Nat.reduceAdd, Nat.reduceMul, Nat.reduceSub, Nat.reduceLeDiff, Int.reduceToNat, Int.reduceLT, Int.reduceLE, Int.reduceEq, Int.reduceNeg, Int.reduceSub, Int.reduceAdd, Int.reduceMul, stG_own] at ck ro os pu ⊢
 repeat (refine ⟨by decide, ?_⟩)
 refine callF_of ck ?_
 (refine ev ?_; try exact ⟨⟩)
 repeat (refine ⟨by decide, ?_⟩)
 refine callF_of ro ?_
 (refine ev ?_; try exact ⟨⟩)
 repeat (refine ⟨by decide, ?_⟩)
 refine callF_of os ?_
 (refine ev ?_; try exact ⟨⟩)
 repeat (refine ⟨by decide, ?_⟩)
 refine callF_of pu ?_
 (refine ev ?_; try exact ⟨⟩)
 all_goals rfl
end Go.Proofs

/-
 AFFINE: Fixed. Own work.
-/
namespace Go.Proofs
open Go Go.Pi Go.RowKit Go.Shelf Go.Ar Go.Mx

theorem Tryz.alist (v : V3) : Con Tryz.prog Tryz.L 61 [.agg v.L] (.sl 3 v.L) := by
 refine rule61 Tryz.hL rfl rfl rfl ?_
 simp only [V3.L, pc61, rs61, oU, oC, evX, evY, evZ, forall_const, implies_true, initE, stepF, D.clean, mvF, moF, tkF, shF, ariF, ciF, catF, scF, ebF, eqF, eqOk, eqPr, enF, notF, ngF, cvF, csF, csbF, lenF, lenSF, ixF, iaF, PX.slot, iaAF, faF, ldF, D.mem, stF, bxF, mkSF, boundF, fldF, ixAF, mmF2, D.plain, D.isPure, optAll, D.dull, callVF, splice, D.cells, D.one, sets, resT, D.flat, D.flat0, D.simple, Nat.reduceBNe, Nat.reduceLT, reduceIte, Nat.reduceEqDiff, Nat.reduceAdd, Nat.reduceMul, Nat.reduceSub, Nat.reduceLeDiff, Int.reduceToNat, Int.reduceLT, Int.reduceLE, Int.reduceEq, Int.reduceNeg, Int.reduceSub, Int.reduceAdd, Int.reduceMul, stG_own]
/-- the rows less those of the identity -/
def M3.fr (m : M3) (i : Nat) : V3 := (m.g.row i).sub (G3.one.row i)
def M3.fF (m : M3) : Mtx := fun i j => (m.fr i).at' j
def M3.fy (m : M3) : Nat → Rat := fun i => -(m.s.at' i)
theorem M3.f_mat (m : M3) : matD 3 3 m.fF = .sl 3 [.sl 3 (m.fr 0).L, .sl 3 (m.fr 1).L, .sl 3 (m.fr 2).L] := rfl
theorem M3.f_rhs (m : M3) : rowD 3 m.fy = .sl 3 [.str (rt (-m.s.x)), .str (rt (-m.s.y)), .str (rt (-m.s.z))] := rfl
theorem strs3 (f : Nat → Rat) : strs 3 f = [.str (rt (f 0)), .str (rt (f 1)), .str (rt (f 2))] := rfl
/-- the free directions -/
def fixK (K : RSt) (n : Nat) : List D := tsD (lst n fun i => (V3.of (kerM K 3 i)).t)
theorem fixK_succ (K : RSt) (n : Nat) : fixK K (n + 1) = fixK K n ++ (V3.of (kerM K 3 n)).L := by
 unfold fixK tsD
 rw [lst_succ, List.flatMap_append]
 simp [T3.L, V3.t, V3.L]
theorem fixK_len (K : RSt) (n : Nat) : (fixK K n).length = 3 * n := by
 unfold fixK; rw [tsD_len, lst_len]
noncomputable def fixR (s K : RSt) : D := @ite D (okS 3 3 s) (Classical.propDecidable _) (.tup [.agg (V3.of (solV s 3)).L, .sl (freeC K.lead 3).length (fixK K (freeC K.lead 3).length), .bool true, .int .i64 0]) (.tup [.agg [.str [], .str [], .str []], .sl 0 [], .bool false, .int .i64 0])
set_option maxRecDepth 100000 in
set_option maxHeartbeats 8000000 in
theorem Tryz.aFixed (m : M3) (w : Nat) (h3 : w = 3) (hm : m.rd 20) (hw : RBs 2 3 (w + 1) (wideM w m.fF fun i _ => m.fy i)) (hF : RBs 2 3 w m.fF) : Con Tryz.prog Tryz.L 14 [.agg m.L] (fixR (redM 3 (wideM w m.fF fun i _ => m.fy i) w) (redM 3 m.fF w)) := by
 have ck := Tryz.amcheck m (M3.rd_mono hm (by decide))
 have ro := Tryz.arows m
 have un := Tryz.aunit
 have h1 := G3.rd_one
 have s0 : Con Tryz.prog Tryz.L 59 [.agg m.g.a.L, .agg G3.one.a.L] (.agg (m.fr 0).L) := Tryz.asub m.g.a G3.one.a hm.1.1 h1.1 (by decide) (by decide)
 have s1 : Con Tryz.prog Tryz.L 59 [.agg m.g.b.L, .agg G3.one.b.L] (.agg (m.fr 1).L) := Tryz.asub m.g.b G3.one.b hm.1.2.1 h1.2.1 (by decide) (by decide)
 have s2 : Con Tryz.prog Tryz.L 59 [.agg m.g.c.L, .agg G3.one.c.L] (.agg (m.fr 2).L) := Tryz.asub m.g.c G3.one.c hm.1.2.2 h1.2.2 (by decide) (by decide)
 have l0 := Tryz.alist (m.fr 0); have l1 := Tryz.alist (m.fr 1); have l2 := Tryz.alist (m.fr 2)
 have os := Tryz.aof m.s
 have n0 := Tryz.rneg m.s.x (by have := hm.2.1; omega)
 have n1 := Tryz.rneg m.s.y (by have := hm.2.2.1; omega)
 have n2 := Tryz.rneg m.s.z (by have := hm.2.2.2; omega)
 have hp : (2 + 1) * 2 ^ w = 24 := by rw [h3]
 have hwr := rbs_red hw (w := w) (by omega)
 have hFr := rbs_red hF (w := w) (Nat.le_refl _)
 rw [hp] at hwr hFr
 have hgd := good_red 3 m.fF w
 have hfc := free_count hgd.inc hgd.lt
 have hle : (redM 3 (wideM w m.fF fun i _ => m.fy i) w).lead.length ≤ 3 := (good_red 3 _ w).len
 have hrt : Rts 3 w m.fF := rts_of hF (by decide)
 have hyr : Rt 3 m.fy := fun i hi => by
  have := rd_of_nb ((hw i hi).nb (j := w) (by omega))
  have e : wideM w m.fF (fun i _ => m.fy i) i w = m.fy i := if_neg (by omega)
  rw [e] at this
  show rd (m.fy i) ≤ 200
  omega
 have hsn := solV_nb (n := 3) (m := w) hwr hle
 have hsv : (V3.of (solV (redM 3 (wideM w m.fF fun i _ => m.fy i) w) w)).rd 200 := ⟨by have := rd_of_nb (hsn 0); exact Nat.le_trans this (by decide), by have := rd_of_nb (hsn 1); exact Nat.le_trans this (by decide), by have := rd_of_nb (hsn 2); exact Nat.le_trans this (by decide)⟩
 have hS := Tryz.msolveW 3 w m.fF m.fy (by decide) (by decide) (by omega) hrt hyr (bnd_of hw (by omega) (by omega)) (fun _ j _ => by have := rd_of_nb (hsn j); exact Nat.le_trans this (by decide))
 have hK := Tryz.mkernel 3 w m.fF (by decide) (by omega) (fun h => absurd h (by decide)) hrt (bnd_of hF (Nat.le_refl _) (by omega)) (fun i hi j _ => by have := rd_of_nb (kerM_nb hFr hgd hi j); exact Nat.le_trans this (by decide))
 have pl := Tryz.aplace (V3.of (solV (redM 3 (wideM w m.fF fun i _ => m.fy i) w) w)) hsv
 have vv := fun i => Tryz.avector (V3.of (kerM (redM 3 m.fF w) w i))
 generalize redM 3 (wideM w m.fF fun i _ => m.fy i) w = S at *
 generalize redM 3 m.fF w = K at *
 clear hwr hFr hsn hrt hyr hsv hp hw hF
 subst h3
 rw [M3.f_rhs] at hS
 rw [M3.f_mat] at hS hK
 generalize hN : (freeC K.lead 3).length = N at *
 refine rule14 Tryz.hL (by unfold fixR; split <;> rfl) rfl rfl ?_
 simp only [V3.L, M3.L, G3.L, pc14, rs14, oU, oC, evX, evY, evZ, forall_const, implies_true, initE, stepF, D.clean, mvF, moF, tkF, shF, ariF, ciF, catF, scF, ebF, eqF, eqOk, eqPr, enF, notF, ngF, cvF, csF, csbF, lenF, lenSF, ixF, iaF, PX.slot, iaAF, faF, ldF, D.mem, stF, bxF, mkSF, boundF, fldF, ixAF, mmF2, D.plain, D.isPure, optAll, D.dull, callVF, splice, D.cells, D.one, sets, resT, D.flat, D.flat0, D.simple, Nat.reduceBNe, Nat.reduceLT, reduceIte, Nat.reduceEqDiff, Nat.reduceAdd, Nat.reduceMul, Nat.reduceSub, Nat.reduceLeDiff, Int.reduceToNat, Int.reduceLT, Int.reduceLE, Int.reduceEq, Int.reduceNeg, Int.reduceSub, Int.reduceAdd, Int.reduceMul, stG_own] at ck ro un s0 s1 s2 l0 l1 l2 os pl hS hK ⊢
 refine callF_of ck ?_
 (refine ev ?_; try exact ⟨⟩)
 refine callF_of ro ?_
 (refine ev ?_; try exact ⟨⟩)
 refine loopF_of (fun E => ∃ (p q : D) (i : Int), ((i = 0 ∧ p = .own true 59 0 [] ∧ q = .own true 28 0 []) ∨ (i = 1 ∧ p = .own true 59 1 [.sl 3 (m.fr 0).L] ∧ q = .own true 28 1 [.str (rt (-m.s.x))]) ∨ (i = 2 ∧ p = .own true 59 2 [.sl 3 (m.fr 0).L, .sl 3 (m.fr 1).L] ∧ q = .own true 28 2 [.str (rt (-m.s.x)), .str (rt (-m.s.y))]) ∨ (i = 3 ∧ p = .own true 59 3 [.sl 3 (m.fr 0).L, .sl 3 (m.fr 1).L, .sl 3 (m.fr 2).L] ∧ q = .own true 28 3 [.str (rt (-m.s.x)), .str (rt (-m.s.y)), .str (rt (-m.s.z))])) ∧ E = [(1, .box true m.L), (2, .box true [.str [], .str [], .str []]), (3, .own true 30 0 []), (8, p), (9, q), (26, .agg m.g.L), (27, .int .i64 i)])
  (fun E => match lk E 27 with | .int _ i => (3 - i).toNat | _ => 0) ⟨_, _, _, .inl ⟨rfl, rfl, rfl⟩, by simp [M3.L, G3.L]⟩ ?_
 rintro _ ⟨p, q, i, hp, rfl⟩
 rcases hp with ⟨rfl, rfl, rfl⟩ | ⟨rfl, rfl, rfl⟩ | ⟨rfl, rfl, rfl⟩ | ⟨rfl, rfl, rfl⟩
 ·simp only [V3.L, M3.L, G3.L, evX, evY, evZ, forall_const, implies_true, initE, stepF, D.clean, mvF, moF, tkF, shF, ariF, ciF, catF, scF, ebF, eqF, eqOk, eqPr, enF, notF, ngF, cvF, csF, csbF, lenF, lenSF, ixF, iaF, PX.slot, iaAF, faF, ldF, D.mem, stF, bxF, mkSF, boundF, fldF, ixAF, mmF2, D.plain, D.isPure, optAll, D.dull, callVF, splice, D.cells, D.one, sets, resT, D.flat, D.flat0, D.simple, Nat.reduceBNe, Nat.reduceLT, reduceIte, Nat.reduceEqDiff, Nat.reduceAdd, Nat.reduceMul, Nat.reduceSub, Nat.reduceLeDiff, Int.reduceToNat, Int.reduceLT, Int.reduceLE, Int.reduceEq, Int.reduceNeg, Int.reduceSub, Int.reduceAdd, Int.reduceMul, stG_own]
  repeat (refine ⟨by decide, ?_⟩)
  refine callF_of un ?_
  (refine ev ?_; try exact ⟨⟩)
  repeat (refine ⟨by decide, ?_⟩)
  refine callF_of s0 ?_
  (refine ev ?_; try exact ⟨⟩)
  refine callF_of l0 ?_
  (refine ev ?_; try exact ⟨⟩)
  repeat (refine ⟨by decide, ?_⟩)
  refine callF_of os ?_
  (refine ev ?_; try exact ⟨⟩)
  repeat (refine ⟨by decide, ?_⟩)
  refine callF_of n0 ?_
  (refine ev ?_; try exact ⟨⟩)
  repeat (refine ⟨by decide, ?_⟩)
  exact ⟨_, _, _, .inr (.inl ⟨rfl, rfl, rfl⟩), by simp [M3.L, G3.L, V3.L]⟩
 ·simp only [V3.L, M3.L, G3.L, evX, evY, evZ, forall_const, implies_true, initE, stepF, D.clean, mvF, moF, tkF, shF, ariF, ciF, catF, scF, ebF, eqF, eqOk, eqPr, enF, notF, ngF, cvF, csF, csbF, lenF, lenSF, ixF, iaF, PX.slot, iaAF, faF, ldF, D.mem, stF, bxF, mkSF, boundF, fldF, ixAF, mmF2, D.plain, D.isPure, optAll, D.dull, callVF, splice, D.cells, D.one, sets, resT, D.flat, D.flat0, D.simple, Nat.reduceBNe, Nat.reduceLT, reduceIte, Nat.reduceEqDiff, Nat.reduceAdd, Nat.reduceMul, Nat.reduceSub, Nat.reduceLeDiff, Int.reduceToNat, Int.reduceLT, Int.reduceLE, Int.reduceEq, Int.reduceNeg, Int.reduceSub, Int.reduceAdd, Int.reduceMul, stG_own]
  repeat (refine ⟨by decide, ?_⟩)
  refine callF_of un ?_
  (refine ev ?_; try exact ⟨⟩)
  repeat (refine ⟨by decide, ?_⟩)
  refine callF_of s1 ?_
  (refine ev ?_; try exact ⟨⟩)
  refine callF_of l1 ?_
  (refine ev ?_; try exact ⟨⟩)
  repeat (refine ⟨by decide, ?_⟩)
  refine callF_of os ?_
  (refine ev ?_; try exact ⟨⟩)
  repeat (refine ⟨by decide, ?_⟩)
  refine callF_of n1 ?_
  (refine ev ?_; try exact ⟨⟩)
  repeat (refine ⟨by decide, ?_⟩)
  exact ⟨_, _, _, .inr (.inr (.inl ⟨rfl, rfl, rfl⟩)), by simp [M3.L, G3.L, V3.L]⟩
 ·simp only [V3.L, M3.L, G3.L, evX, evY, evZ, forall_const, implies_true, initE, stepF, D.clean, mvF, moF, tkF, shF, ariF, ciF, catF, scF, ebF, eqF, eqOk, eqPr, enF, notF, ngF, cvF, csF, csbF, lenF, lenSF, ixF, iaF, PX.slot, iaAF, faF, ldF, D.mem, stF, bxF, mkSF, boundF, fldF, ixAF, mmF2, D.plain, D.isPure, optAll, D.dull, callVF, splice, D.cells, D.one, sets, resT, D.flat, D.flat0, D.simple, Nat.reduceBNe, Nat.reduceLT, reduceIte, Nat.reduceEqDiff, Nat.reduceAdd, Nat.reduceMul, Nat.reduceSub, Nat.reduceLeDiff, Int.reduceToNat, Int.reduceLT, Int.reduceLE, Int.reduceEq, Int.reduceNeg, Int.reduceSub, Int.reduceAdd, Int.reduceMul, stG_own]
  repeat (refine ⟨by decide, ?_⟩)
  refine callF_of un ?_
  (refine ev ?_; try exact ⟨⟩)
  repeat (refine ⟨by decide, ?_⟩)
  refine callF_of s2 ?_
  (refine ev ?_; try exact ⟨⟩)
  refine callF_of l2 ?_
  (refine ev ?_; try exact ⟨⟩)
  repeat (refine ⟨by decide, ?_⟩)
  refine callF_of os ?_
  (refine ev ?_; try exact ⟨⟩)
  repeat (refine ⟨by decide, ?_⟩)
  refine callF_of n2 ?_
  (refine ev ?_; try exact ⟨⟩)
  repeat (refine ⟨by decide, ?_⟩)
  exact ⟨_, _, _, .inr (.inr (.inr ⟨rfl, rfl, rfl⟩)), by simp [M3.L, G3.L, V3.L]⟩
 ·simp only [V3.L, M3.L, G3.L, evX, evY, evZ, forall_const, implies_true, initE, stepF, D.clean, mvF, moF, tkF, shF, ariF, ciF, catF, scF, ebF, eqF, eqOk, eqPr, enF, notF, ngF, cvF, csF, csbF, lenF, lenSF, ixF, iaF, PX.slot, iaAF, faF, ldF, D.mem, stF, bxF, mkSF, boundF, fldF, ixAF, mmF2, D.plain, D.isPure, optAll, D.dull, callVF, splice, D.cells, D.one, sets, resT, D.flat, D.flat0, D.simple, Nat.reduceBNe, Nat.reduceLT, reduceIte, Nat.reduceEqDiff, Nat.reduceAdd, Nat.reduceMul, Nat.reduceSub, Nat.reduceLeDiff, Int.reduceToNat, Int.reduceLT, Int.reduceLE, Int.reduceEq, Int.reduceNeg, Int.reduceSub, Int.reduceAdd, Int.reduceMul, stG_own]
  by_cases hok : okS 3 3 S
  ·rw [show fixR S K = _ from if_pos hok]
   rw [show solD 3 3 S = _ from if_pos hok] at hS
   refine callF_of hS ?_
   (refine ev ?_; try exact ⟨⟩)
   refine ⟨fun h => absurd h (by split <;> decide), fun _ => ?_⟩
   refine callF_of hK ?_
   (refine ev ?_; try exact ⟨⟩)
   rw [hN]
   refine loopF_of (fun E => ∃ k : Nat, k ≤ N ∧ E = [(2, .box true [.str [], .str [], .str []]), (3, .own true 30 k (fixK K k)), (12, .sl 3 (strs 3 (solV S 3))), (76, matD N 3 (kerM K 3)), (77, .int .i64 N), (78, .int .i64 k)])
    (fun E => match lk E 78 with | .int _ i => N - i.toNat | _ => 0) ⟨0, Nat.zero_le _, rfl⟩ ?_
   rintro _ ⟨k, hk, rfl⟩
   (refine ev ?_; try exact ⟨⟩)
   refine ⟨fun h3 => ?_, fun h3 => ?_⟩
   ·have hkN : k < N := by omega
    have hv := vv k
    simp only [V3.L] at hv
    refine ⟨⟨by omega, by omega, by rw [rowsD_len]; omega⟩, ?_⟩
    rw [ldC_rowsD]
    refine ⟨hkN, ?_⟩
    simp only [strs3, evX, evY, evZ, forall_const, implies_true, initE, stepF, D.clean, mvF, moF, tkF, shF, ariF, ciF, catF, scF, ebF, eqF, eqOk, eqPr, enF, notF, ngF, cvF, csF, csbF, lenF, lenSF, ixF, iaF, PX.slot, iaAF, faF, ldF, D.mem, stF, bxF, mkSF, boundF, fldF, ixAF, mmF2, D.plain, D.isPure, optAll, D.dull, callVF, splice, D.cells, D.one, sets, resT, D.flat, D.flat0, D.simple, Nat.reduceBNe, Nat.reduceLT, reduceIte, Nat.reduceEqDiff, Nat.reduceAdd, Nat.reduceMul, Nat.reduceSub, Nat.reduceLeDiff, Int.reduceToNat, Int.reduceLT, Int.reduceLE, Int.reduceEq, Int.reduceNeg, Int.reduceSub, Int.reduceAdd, Int.reduceMul, stG_own]
    repeat (refine ⟨by decide, ?_⟩)
    refine callF_of hv ?_
    (refine ev ?_; try exact ⟨⟩)
    have hl := fixK_len K k
    exact ⟨by omega, by omega, by omega, ⟨k + 1, by omega, by rw [fixK_succ]; rfl, by simp⟩, by omega⟩
   ·obtain rfl : k = N := by omega
    simp only [strs3, evX, evY, evZ, forall_const, implies_true, initE, stepF, D.clean, mvF, moF, tkF, shF, ariF, ciF, catF, scF, ebF, eqF, eqOk, eqPr, enF, notF, ngF, cvF, csF, csbF, lenF, lenSF, ixF, iaF, PX.slot, iaAF, faF, ldF, D.mem, stF, bxF, mkSF, boundF, fldF, ixAF, mmF2, D.plain, D.isPure, optAll, D.dull, callVF, splice, D.cells, D.one, sets, resT, D.flat, D.flat0, D.simple, Nat.reduceBNe, Nat.reduceLT, reduceIte, Nat.reduceEqDiff, Nat.reduceAdd, Nat.reduceMul, Nat.reduceSub, Nat.reduceLeDiff, Int.reduceToNat, Int.reduceLT, Int.reduceLE, Int.reduceEq, Int.reduceNeg, Int.reduceSub, Int.reduceAdd, Int.reduceMul, stG_own]
    repeat (refine ⟨by decide, ?_⟩)
    refine callF_of pl ?_
    (refine ev ?_; try exact ⟨⟩)
    rfl
  ·rw [show fixR S K = _ from if_neg hok]
   rw [show solD 3 3 S = _ from if_neg hok] at hS
   refine callF_of hS ?_
   (refine ev ?_; try exact ⟨⟩)
   all_goals rfl
end Go.Proofs

/-
 AFFINE: Translation, Shear; the law's vectors and plans, printed by tools/aff5.py. Own work.
-/
namespace Go.Proofs
open Go Go.Pi Go.RowKit Go.Shelf Go.Ar Go.Mx

theorem Tryz.afirst2 (u v : V3) (h : u.rd 200) (h' : v.rd 200) : Con Tryz.prog Tryz.L 74 [.sl 2 [.str (rt u.x), .str (rt u.y), .str (rt u.z), .str (rt v.x), .str (rt v.y), .str (rt v.z)]] (.int .i64 0) := by
 have fi := Tryz.tfirst [u.t, v.t] (by simp) (all2.2 ⟨V3.t_sz h (by decide), V3.t_sz h' (by decide)⟩)
 rw [chk_t (all2.2 ⟨(V3.t_ok u).2 h, (V3.t_ok v).2 h'⟩)] at fi
 exact fi
/-- the rows of a shear -/
def shG (n d : V3) : G3 := ⟨G3.one.a.add (n.mul d.x), G3.one.b.add (n.mul d.y), G3.one.c.add (n.mul d.z)⟩
set_option maxHeartbeats 4000000 in
theorem Tryz.aShear (n d : V3) (hn : n.rd 90) (hd : d.rd 90) (h0 : n.dot d = 0) : Con Tryz.prog Tryz.L 28 [.agg n.L, .agg d.L] (.tup [.agg (M3.mk (shG n d) V3.zero).L, .int .i64 0]) := by
 have fi := Tryz.afirst2 n d (V3.rd_mono hn (by decide)) (V3.rd_mono hd (by decide))
 have on := Tryz.aof n
 have od := Tryz.aof d
 have dt := Tryz.adot n d hn hd (by decide)
 rw [h0, rt0] at dt
 have un := Tryz.aunit
 have hm := fun (q : Rat) (hq : rd q ≤ 90) => V3.rd_mulq hn hq
 have t0 := Tryz.atimes n d.x hn (by have := hd.1; omega) (by decide)
 have t1 := Tryz.atimes n d.y hn (by have := hd.2.1; omega) (by decide)
 have t2 := Tryz.atimes n d.z hn (by have := hd.2.2; omega) (by decide)
 have a0 := Tryz.aadd G3.one.a (n.mul d.x) G3.rd_one.1 (hm _ hd.1) (by decide) (by decide)
 have a1 := Tryz.aadd G3.one.b (n.mul d.y) G3.rd_one.2.1 (hm _ hd.2.1) (by decide) (by decide)
 have a2 := Tryz.aadd G3.one.c (n.mul d.z) G3.rd_one.2.2 (hm _ hd.2.2) (by decide) (by decide)
 have hG : (shG n d).rd 200 := by
  have key : ∀ (e : V3) (q : Rat), e.rd 1 → rd q ≤ 90 → (e.add (n.mul q)).rd 200 := fun e q he hq => by
   have h := hm q hq
   exact ⟨by have := rd_add he.1 h.1; show rd (_ + _) ≤ _; omega, by have := rd_add he.2.1 h.2.1; show rd (_ + _) ≤ _; omega, by have := rd_add he.2.2 h.2.2; show rd (_ + _) ≤ _; omega⟩
  exact ⟨key _ _ G3.rd_one.1 hd.1, key _ _ G3.rd_one.2.1 hd.2.1, key _ _ G3.rd_one.2.2 hd.2.2⟩
 have ma := Tryz.amade (shG n d) V3.zero hG (V3.rd_mono V3.rd_zero (by decide))
 have hz : V3.zero.L = [.str [48], .str [48], .str [48]] := by simp only [V3.L, V3.zero, rt0]
 rw [hz] at ma
 have hz2 : (M3.mk (shG n d) V3.zero).L = (G3.L (shG n d)) ++ V3.L V3.zero := rfl
 rw [hz2, hz] at ma ⊢
 have e0 : (shG n d).a = G3.one.a.add (n.mul d.x) := rfl
 have e1 : (shG n d).b = G3.one.b.add (n.mul d.y) := rfl
 have e2 : (shG n d).c = G3.one.c.add (n.mul d.z) := rfl
 generalize shG n d = G at *
 rw [← e0] at a0; rw [← e1] at a1; rw [← e2] at a2
 clear e0 e1 e2 hG
 generalize G3.one = O at *
 refine rule28 Tryz.hL rfl rfl rfl ?_
 simp only [V3.L, G3.L, M3.L, List.cons_append, List.nil_append, pc28, rs28, oU, oC, evX, evY, evZ, forall_const, implies_true, initE, stepF, D.clean, mvF, moF, tkF, shF, ariF, ciF, catF, scF, ebF, eqF, eqOk, eqPr, enF, notF, ngF, cvF, csF, csbF, lenF, lenSF, ixF, iaF, PX.slot, iaAF, faF, ldF, D.mem, stF, bxF, mkSF, boundF, fldF, ixAF, mmF2, D.plain, D.isPure, optAll, D.dull, callVF, splice, D.cells, D.one, sets, resT, D.flat, D.flat0, D.simple, Nat.reduceBNe, Nat.reduceLT, reduceIte, Nat.reduceEqDiff, Nat.reduceAdd, Nat.reduceMul, Nat.reduceSub, Nat.reduceLeDiff, Int.reduceToNat, Int.reduceLT, Int.reduceLE, Int.reduceEq, Int.reduceNeg, Int.reduceSub, Int.reduceAdd, Int.reduceMul, stG_own] at fi on od dt un t0 t1 t2 a0 a1 a2 ma ⊢
 repeat (refine ⟨by decide, ?_⟩)
 refine callF_of fi ?_
 (refine ev ?_; try exact ⟨⟩)
 repeat (refine ⟨by decide, ?_⟩)
 refine callF_of on ?_
 (refine ev ?_; try exact ⟨⟩)
 repeat (refine ⟨by decide, ?_⟩)
 refine callF_of od ?_
 (refine ev ?_; try exact ⟨⟩)
 repeat (refine ⟨by decide, ?_⟩)
 refine callF_of dt ?_
 (refine ev ?_; try exact ⟨⟩)
 repeat (refine ⟨by decide, ?_⟩)
 refine callF_of un ?_
 (refine ev ?_; try exact ⟨⟩)
 refine loopF_of (fun E => ∃ (p : List D) (i : Int), ((i = 0 ∧ p = [.str (rt O.a.x), .str (rt O.a.y), .str (rt O.a.z), .str (rt O.b.x), .str (rt O.b.y), .str (rt O.b.z), .str (rt O.c.x), .str (rt O.c.y), .str (rt O.c.z)]) ∨ (i = 1 ∧ p = [.str (rt G.a.x), .str (rt G.a.y), .str (rt G.a.z), .str (rt O.b.x), .str (rt O.b.y), .str (rt O.b.z), .str (rt O.c.x), .str (rt O.c.y), .str (rt O.c.z)]) ∨ (i = 2 ∧ p = [.str (rt G.a.x), .str (rt G.a.y), .str (rt G.a.z), .str (rt G.b.x), .str (rt G.b.y), .str (rt G.b.z), .str (rt O.c.x), .str (rt O.c.y), .str (rt O.c.z)]) ∨ (i = 3 ∧ p = [.str (rt G.a.x), .str (rt G.a.y), .str (rt G.a.z), .str (rt G.b.x), .str (rt G.b.y), .str (rt G.b.z), .str (rt G.c.x), .str (rt G.c.y), .str (rt G.c.z)])) ∧ E = [(4, .box true [.str [], .str [], .str [], .str [], .str [], .str [], .str [], .str [], .str [], .str [], .str [], .str []]), (7, .box true n.L), (8, .box true d.L), (9, .box true p), (29, .int .i64 i)])
  (fun E => match lk E 29 with | .int _ i => (3 - i).toNat | _ => 0) ⟨_, _, .inl ⟨rfl, rfl⟩, by simp [V3.L]⟩ ?_
 rintro _ ⟨p, i, hp, rfl⟩
 rcases hp with ⟨rfl, rfl⟩ | ⟨rfl, rfl⟩ | ⟨rfl, rfl⟩ | ⟨rfl, rfl⟩
 ·simp only [V3.L, evX, evY, evZ, forall_const, implies_true, initE, stepF, D.clean, mvF, moF, tkF, shF, ariF, ciF, catF, scF, ebF, eqF, eqOk, eqPr, enF, notF, ngF, cvF, csF, csbF, lenF, lenSF, ixF, iaF, PX.slot, iaAF, faF, ldF, D.mem, stF, bxF, mkSF, boundF, fldF, ixAF, mmF2, D.plain, D.isPure, optAll, D.dull, callVF, splice, D.cells, D.one, sets, resT, D.flat, D.flat0, D.simple, Nat.reduceBNe, Nat.reduceLT, reduceIte, Nat.reduceEqDiff, Nat.reduceAdd, Nat.reduceMul, Nat.reduceSub, Nat.reduceLeDiff, Int.reduceToNat, Int.reduceLT, Int.reduceLE, Int.reduceEq, Int.reduceNeg, Int.reduceSub, Int.reduceAdd, Int.reduceMul, stG_own]
  repeat (refine ⟨by decide, ?_⟩)
  refine callF_of t0 ?_
  (refine ev ?_; try exact ⟨⟩)
  refine callF_of a0 ?_
  (refine ev ?_; try exact ⟨⟩)
  repeat (refine ⟨by decide, ?_⟩)
  exact ⟨_, _, .inr (.inl ⟨rfl, rfl⟩), by simp [V3.L]⟩
 ·simp only [V3.L, evX, evY, evZ, forall_const, implies_true, initE, stepF, D.clean, mvF, moF, tkF, shF, ariF, ciF, catF, scF, ebF, eqF, eqOk, eqPr, enF, notF, ngF, cvF, csF, csbF, lenF, lenSF, ixF, iaF, PX.slot, iaAF, faF, ldF, D.mem, stF, bxF, mkSF, boundF, fldF, ixAF, mmF2, D.plain, D.isPure, optAll, D.dull, callVF, splice, D.cells, D.one, sets, resT, D.flat, D.flat0, D.simple, Nat.reduceBNe, Nat.reduceLT, reduceIte, Nat.reduceEqDiff, Nat.reduceAdd, Nat.reduceMul, Nat.reduceSub, Nat.reduceLeDiff, Int.reduceToNat, Int.reduceLT, Int.reduceLE, Int.reduceEq, Int.reduceNeg, Int.reduceSub, Int.reduceAdd, Int.reduceMul, stG_own]
  repeat (refine ⟨by decide, ?_⟩)
  refine callF_of t1 ?_
  (refine ev ?_; try exact ⟨⟩)
  refine callF_of a1 ?_
  (refine ev ?_; try exact ⟨⟩)
  repeat (refine ⟨by decide, ?_⟩)
  exact ⟨_, _, .inr (.inr (.inl ⟨rfl, rfl⟩)), by simp [V3.L]⟩
 ·simp only [V3.L, evX, evY, evZ, forall_const, implies_true, initE, stepF, D.clean, mvF, moF, tkF, shF, ariF, ciF, catF, scF, ebF, eqF, eqOk, eqPr, enF, notF, ngF, cvF, csF, csbF, lenF, lenSF, ixF, iaF, PX.slot, iaAF, faF, ldF, D.mem, stF, bxF, mkSF, boundF, fldF, ixAF, mmF2, D.plain, D.isPure, optAll, D.dull, callVF, splice, D.cells, D.one, sets, resT, D.flat, D.flat0, D.simple, Nat.reduceBNe, Nat.reduceLT, reduceIte, Nat.reduceEqDiff, Nat.reduceAdd, Nat.reduceMul, Nat.reduceSub, Nat.reduceLeDiff, Int.reduceToNat, Int.reduceLT, Int.reduceLE, Int.reduceEq, Int.reduceNeg, Int.reduceSub, Int.reduceAdd, Int.reduceMul, stG_own]
  repeat (refine ⟨by decide, ?_⟩)
  refine callF_of t2 ?_
  (refine ev ?_; try exact ⟨⟩)
  refine callF_of a2 ?_
  (refine ev ?_; try exact ⟨⟩)
  repeat (refine ⟨by decide, ?_⟩)
  exact ⟨_, _, .inr (.inr (.inr ⟨rfl, rfl⟩)), by simp [V3.L]⟩
 ·simp only [V3.L, evX, evY, evZ, forall_const, implies_true, initE, stepF, D.clean, mvF, moF, tkF, shF, ariF, ciF, catF, scF, ebF, eqF, eqOk, eqPr, enF, notF, ngF, cvF, csF, csbF, lenF, lenSF, ixF, iaF, PX.slot, iaAF, faF, ldF, D.mem, stF, bxF, mkSF, boundF, fldF, ixAF, mmF2, D.plain, D.isPure, optAll, D.dull, callVF, splice, D.cells, D.one, sets, resT, D.flat, D.flat0, D.simple, Nat.reduceBNe, Nat.reduceLT, reduceIte, Nat.reduceEqDiff, Nat.reduceAdd, Nat.reduceMul, Nat.reduceSub, Nat.reduceLeDiff, Int.reduceToNat, Int.reduceLT, Int.reduceLE, Int.reduceEq, Int.reduceNeg, Int.reduceSub, Int.reduceAdd, Int.reduceMul, stG_own]
  refine callF_of ma ?_
  (refine ev ?_; try exact ⟨⟩)
  rfl
theorem sf_int (z : Int) (h : z.natAbs ≤ 1000000000) : SF (z : Rat) := ⟨h, by show (1 : Nat) ≤ _; decide⟩
theorem div1 (z : Int) : (z : Rat) / ((1 : Int) : Rat) = (z : Rat) := by
 rw [Rat.div_def]
 have : ((1 : Int) : Rat)⁻¹ = 1 := by decide +kernel
 rw [this, Rat.mul_one]
set_option maxHeartbeats 2000000 in
theorem Tryz.avec (x y z : Int) (hx : x.natAbs ≤ 1000000000) (hy : y.natAbs ≤ 1000000000) (hz : z.natAbs ≤ 1000000000) : Con Tryz.prog Tryz.L 22 [.int .i64 x, .int .i64 y, .int .i64 z] (.agg (V3.L ⟨(x : Rat), (y : Rat), (z : Rat)⟩)) := by
 have mx := Tryz.fmake x 1 (by decide) (by omega) (by decide)
 rw [div1] at mx
 have my := Tryz.fmake y 1 (by decide) (by omega) (by decide)
 rw [div1] at my
 have mz := Tryz.fmake z 1 (by decide) (by omega) (by decide)
 rw [div1] at mz
 have ve := Tryz.wvector ⟨(x : Rat), (y : Rat), (z : Rat)⟩ ⟨sf_int x hx, sf_int y hy, sf_int z hz⟩
 refine rule22 Tryz.hL rfl rfl rfl ?_
 simp only [V3.L, G3.L, M3.L, fD, V3.F, pc22, rs22, oU, oC, evX, evY, evZ, forall_const, implies_true, initE, stepF, D.clean, mvF, moF, tkF, shF, ariF, ciF, catF, scF, ebF, eqF, eqOk, eqPr, enF, notF, ngF, cvF, csF, csbF, lenF, lenSF, ixF, iaF, PX.slot, iaAF, faF, ldF, D.mem, stF, bxF, mkSF, boundF, fldF, ixAF, mmF2, D.plain, D.isPure, optAll, D.dull, callVF, splice, D.cells, D.one, sets, resT, D.flat, D.flat0, D.simple, Nat.reduceBNe, Nat.reduceLT, reduceIte, Nat.reduceEqDiff, Nat.reduceAdd, Nat.reduceMul, Nat.reduceSub, Nat.reduceLeDiff, Int.reduceToNat, Int.reduceLT, Int.reduceLE, Int.reduceEq, Int.reduceNeg, Int.reduceSub, Int.reduceAdd, Int.reduceMul, stG_own] at mx my mz ve ⊢
 repeat (refine ⟨by decide, ?_⟩)
 refine callF_of mx ?_
 (refine ev ?_; try exact ⟨⟩)
 repeat (refine ⟨by decide, ?_⟩)
 refine callF_of my ?_
 (refine ev ?_; try exact ⟨⟩)
 repeat (refine ⟨by decide, ?_⟩)
 refine callF_of mz ?_
 (refine ev ?_; try exact ⟨⟩)
 repeat (refine ⟨by decide, ?_⟩)
 refine callF_of ve ?_
 (refine ev ?_; try exact ⟨⟩)
 all_goals rfl
end Go.Proofs

/-
 AFFINE: plans, printed by tools/aff6.py. Own work.
-/
namespace Go.Proofs
open Go Go.Pi Go.RowKit Go.Shelf Go.Ar Go.Mx

/-- a number of a plan -/
def vq (h : Bool) (a : Int) : Rat := ((a.tmod 7 : Int) : Rat) / (((if h then 2 else 1 : Int)) : Rat)
theorem tmod7 (z : Int) : -6 ≤ z.tmod 7 ∧ z.tmod 7 ≤ 6 := by
 have h1 := Int.tmod_lt_of_pos z (show (0 : Int) < 7 by decide)
 have h2 := Int.tmod_lt_of_pos (-z) (show (0 : Int) < 7 by decide)
 rw [Int.neg_tmod] at h2
 omega
theorem vq_cb (h : Bool) (a : Int) : CB 2 12 (vq h a) := by
 have ht := tmod7 a
 unfold vq
 generalize a.tmod 7 = z at *
 cases h
 ·refine ⟨2 * z, by omega, ?_⟩
  show (z : Rat) / ((1 : Int) : Rat) * ((2 : Nat) : Rat) = _
  rw [div1, Rat.intCast_mul]
  have : ((2 : Nat) : Rat) = 2 := rfl
  have e2 : ((2 : Int) : Rat) = 2 := rfl
  rw [this, e2]; grind
 ·refine ⟨z, by omega, ?_⟩
  show (z : Rat) / ((2 : Int) : Rat) * ((2 : Nat) : Rat) = _
  have h3 : ((2 : Int) : Rat) * ((2 : Int) : Rat)⁻¹ = 1 := Rat.mul_inv_cancel _ (by decide +kernel)
  have : ((2 : Nat) : Rat) = ((2 : Int) : Rat) := rfl
  rw [this, Rat.div_def, Rat.mul_assoc, Rat.mul_comm _ ((2 : Int) : Rat), h3, Rat.mul_one]
def i8 (z : Int) : Prop := -128 ≤ z ∧ z ≤ 127
set_option maxHeartbeats 2000000 in
theorem Tryz.lvec (a b c : Int) (h : Bool) (ha : i8 a) (hb : i8 b) (hc : i8 c) : Con Tryz.prog Tryz.L 19 [.agg [.int .i8 a, .int .i8 b, .int .i8 c], .bool h] (.agg (V3.F ⟨vq h a, vq h b, vq h c⟩)) := by
 have ta := tmod7 a; have tb := tmod7 b; have tc := tmod7 c
 obtain ⟨ha1, ha2⟩ := ha; obtain ⟨hb1, hb2⟩ := hb; obtain ⟨hc1, hc2⟩ := hc
 have hd : (if h then 2 else 1 : Int).natAbs ≤ 2 ∧ (if h then 2 else 1 : Int) ≠ 0 := by cases h <;> decide
 have m1 := Tryz.fmake (a.tmod 7) (if h then 2 else 1) hd.2 (by omega) (by omega)
 have m2 := Tryz.fmake (b.tmod 7) (if h then 2 else 1) hd.2 (by omega) (by omega)
 have m3 := Tryz.fmake (c.tmod 7) (if h then 2 else 1) hd.2 (by omega) (by omega)
 have m1 : Con Tryz.prog Tryz.L 39 [.int .i64 (a.tmod 7), .int .i64 (if h then 2 else 1)] (fD (vq h a)) := m1
 have m2 : Con Tryz.prog Tryz.L 39 [.int .i64 (b.tmod 7), .int .i64 (if h then 2 else 1)] (fD (vq h b)) := m2
 have m3 : Con Tryz.prog Tryz.L 39 [.int .i64 (c.tmod 7), .int .i64 (if h then 2 else 1)] (fD (vq h c)) := m3
 generalize vq h a = qa at *
 generalize vq h b = qb at *
 generalize vq h c = qc at *
 refine rule19 Tryz.hL rfl rfl rfl ?_
 cases h
 all_goals
  simp only [fD, V3.F, reduceIte, pc19, rs19, oU, oC, evX, evY, evZ, forall_const, implies_true, initE, stepF, D.clean, mvF, moF, tkF, shF, ariF, ciF, catF, scF, ebF, eqF, eqOk, eqPr, enF, notF, ngF, cvF, csF, csbF, lenF, lenSF, ixF, iaF, PX.slot, iaAF, faF, ldF, D.mem, stF, bxF, mkSF, boundF, fldF, ixAF, mmF2, D.plain, D.isPure, optAll, D.dull, callVF, splice, D.cells, D.one, sets, resT, D.flat, D.flat0, D.simple, Nat.reduceBNe, Nat.reduceLT, reduceIte, Nat.reduceEqDiff, Nat.reduceAdd, Nat.reduceMul, Nat.reduceSub, Nat.reduceLeDiff, Int.reduceToNat, Int.reduceLT, Int.reduceLE, Int.reduceEq, Int.reduceNeg, Int.reduceSub, Int.reduceAdd, Int.reduceMul, stG_own, Bool.false_eq_true] at m1 m2 m3 ⊢
  repeat (refine ⟨by decide, ?_⟩)
  refine ⟨by omega, ?_⟩
  refine callF_of m1 ?_
  (refine ev ?_; try exact ⟨⟩)
  repeat (refine ⟨by decide, ?_⟩)
  refine ⟨by omega, ?_⟩
  refine callF_of m2 ?_
  (refine ev ?_; try exact ⟨⟩)
  repeat (refine ⟨by decide, ?_⟩)
  refine ⟨by omega, ?_⟩
  refine callF_of m3 ?_
  (refine ev ?_; try exact ⟨⟩)
  rfl
/-- a plan -/
structure Pl where
 r : Nat → Int
 h : Bool
def Pl.ok (p : Pl) : Prop := ∀ i, i < 12 → i8 (p.r i)
def Pl.D (p : Pl) : List D := [.int .i8 (p.r 0), .int .i8 (p.r 1), .int .i8 (p.r 2), .int .i8 (p.r 3), .int .i8 (p.r 4), .int .i8 (p.r 5), .int .i8 (p.r 6), .int .i8 (p.r 7), .int .i8 (p.r 8), .int .i8 (p.r 9), .int .i8 (p.r 10), .int .i8 (p.r 11), .bool p.h]
def Pl.v (p : Pl) (i : Nat) : V3 := ⟨vq p.h (p.r i), vq p.h (p.r (i + 1)), vq p.h (p.r (i + 2))⟩
def Pl.m (p : Pl) : M3 := ⟨⟨p.v 0, p.v 3, p.v 6⟩, p.v 9⟩
theorem Pl.cb (p : Pl) (i : Nat) : (p.v i).CB 2 12 := ⟨vq_cb _ _, vq_cb _ _, vq_cb _ _⟩
set_option maxHeartbeats 4000000 in
theorem Tryz.lmodel (p : Pl) (hp : p.ok) : Con Tryz.prog Tryz.L 17 [.agg p.D] (.agg p.m.F) := by
 have v0 : Con Tryz.prog Tryz.L 19 [.agg [.int .i8 (p.r 0), .int .i8 (p.r 1), .int .i8 (p.r 2)], .bool p.h] (.agg (p.v 0).F) := Tryz.lvec (p.r 0) (p.r 1) (p.r 2) p.h (hp 0 (by decide)) (hp 1 (by decide)) (hp 2 (by decide))
 have v1 : Con Tryz.prog Tryz.L 19 [.agg [.int .i8 (p.r 3), .int .i8 (p.r 4), .int .i8 (p.r 5)], .bool p.h] (.agg (p.v 3).F) := Tryz.lvec (p.r 3) (p.r 4) (p.r 5) p.h (hp 3 (by decide)) (hp 4 (by decide)) (hp 5 (by decide))
 have v2 : Con Tryz.prog Tryz.L 19 [.agg [.int .i8 (p.r 6), .int .i8 (p.r 7), .int .i8 (p.r 8)], .bool p.h] (.agg (p.v 6).F) := Tryz.lvec (p.r 6) (p.r 7) (p.r 8) p.h (hp 6 (by decide)) (hp 7 (by decide)) (hp 8 (by decide))
 have v3 : Con Tryz.prog Tryz.L 19 [.agg [.int .i8 (p.r 9), .int .i8 (p.r 10), .int .i8 (p.r 11)], .bool p.h] (.agg (p.v 9).F) := Tryz.lvec (p.r 9) (p.r 10) (p.r 11) p.h (hp 9 (by decide)) (hp 10 (by decide)) (hp 11 (by decide))
 refine rule17 Tryz.hL rfl rfl rfl ?_
 simp only [Pl.D, M3.F, Pl.m, V3.F, pc17, rs17, oU, oC, evX, evY, evZ, forall_const, implies_true, initE, stepF, D.clean, mvF, moF, tkF, shF, ariF, ciF, catF, scF, ebF, eqF, eqOk, eqPr, enF, notF, ngF, cvF, csF, csbF, lenF, lenSF, ixF, iaF, PX.slot, iaAF, faF, ldF, D.mem, stF, bxF, mkSF, boundF, fldF, ixAF, mmF2, D.plain, D.isPure, optAll, D.dull, callVF, splice, D.cells, D.one, sets, resT, D.flat, D.flat0, D.simple, Nat.reduceBNe, Nat.reduceLT, reduceIte, Nat.reduceEqDiff, Nat.reduceAdd, Nat.reduceMul, Nat.reduceSub, Nat.reduceLeDiff, Int.reduceToNat, Int.reduceLT, Int.reduceLE, Int.reduceEq, Int.reduceNeg, Int.reduceSub, Int.reduceAdd, Int.reduceMul, stG_own] at v0 v1 v2 v3 ⊢
 refine loopF_of (fun E => ∃ (w : List D) (i : Int), ((i = 0 ∧ w = [.int .i64 0, .int .i64 0, .int .i64 0, .int .i64 0, .int .i64 0, .int .i64 0, .int .i64 0, .int .i64 0, .int .i64 0, .int .i64 0, .int .i64 0, .int .i64 0, .int .i64 0, .int .i64 0, .int .i64 0, .int .i64 0, .int .i64 0, .int .i64 0, .int .i64 0, .int .i64 0, .int .i64 0, .int .i64 0, .int .i64 0, .int .i64 0]) ∨ (i = 1 ∧ w = [.int .i64 ((p.v 0).x).num, .int .i64 (((p.v 0).x).den : Int), .int .i64 ((p.v 0).y).num, .int .i64 (((p.v 0).y).den : Int), .int .i64 ((p.v 0).z).num, .int .i64 (((p.v 0).z).den : Int), .int .i64 0, .int .i64 0, .int .i64 0, .int .i64 0, .int .i64 0, .int .i64 0, .int .i64 0, .int .i64 0, .int .i64 0, .int .i64 0, .int .i64 0, .int .i64 0, .int .i64 0, .int .i64 0, .int .i64 0, .int .i64 0, .int .i64 0, .int .i64 0]) ∨ (i = 2 ∧ w = [.int .i64 ((p.v 0).x).num, .int .i64 (((p.v 0).x).den : Int), .int .i64 ((p.v 0).y).num, .int .i64 (((p.v 0).y).den : Int), .int .i64 ((p.v 0).z).num, .int .i64 (((p.v 0).z).den : Int), .int .i64 ((p.v 3).x).num, .int .i64 (((p.v 3).x).den : Int), .int .i64 ((p.v 3).y).num, .int .i64 (((p.v 3).y).den : Int), .int .i64 ((p.v 3).z).num, .int .i64 (((p.v 3).z).den : Int), .int .i64 0, .int .i64 0, .int .i64 0, .int .i64 0, .int .i64 0, .int .i64 0, .int .i64 0, .int .i64 0, .int .i64 0, .int .i64 0, .int .i64 0, .int .i64 0]) ∨ (i = 3 ∧ w = [.int .i64 ((p.v 0).x).num, .int .i64 (((p.v 0).x).den : Int), .int .i64 ((p.v 0).y).num, .int .i64 (((p.v 0).y).den : Int), .int .i64 ((p.v 0).z).num, .int .i64 (((p.v 0).z).den : Int), .int .i64 ((p.v 3).x).num, .int .i64 (((p.v 3).x).den : Int), .int .i64 ((p.v 3).y).num, .int .i64 (((p.v 3).y).den : Int), .int .i64 ((p.v 3).z).num, .int .i64 (((p.v 3).z).den : Int), .int .i64 ((p.v 6).x).num, .int .i64 (((p.v 6).x).den : Int), .int .i64 ((p.v 6).y).num, .int .i64 (((p.v 6).y).den : Int), .int .i64 ((p.v 6).z).num, .int .i64 (((p.v 6).z).den : Int), .int .i64 0, .int .i64 0, .int .i64 0, .int .i64 0, .int .i64 0, .int .i64 0])) ∧ E = [(1, .box true p.D), (2, .box true [.int .i64 0, .int .i64 0, .int .i64 0, .int .i64 0, .int .i64 0, .int .i64 0, .int .i64 0, .int .i64 0, .int .i64 0, .int .i64 0, .int .i64 0, .int .i64 0, .int .i64 0, .int .i64 0, .int .i64 0, .int .i64 0, .int .i64 0, .int .i64 0, .int .i64 0, .int .i64 0, .int .i64 0, .int .i64 0, .int .i64 0, .int .i64 0]), (3, .box true w), (4, .int .i64 i)])
  (fun E => match lk E 4 with | .int _ i => (3 - i).toNat | _ => 0) ⟨_, _, .inl ⟨rfl, rfl⟩, by simp [Pl.D]⟩ ?_
 rintro _ ⟨w, i, hw, rfl⟩
 rcases hw with ⟨rfl, rfl⟩ | ⟨rfl, rfl⟩ | ⟨rfl, rfl⟩ | ⟨rfl, rfl⟩
 ·simp only [Pl.D, evX, evY, evZ, forall_const, implies_true, initE, stepF, D.clean, mvF, moF, tkF, shF, ariF, ciF, catF, scF, ebF, eqF, eqOk, eqPr, enF, notF, ngF, cvF, csF, csbF, lenF, lenSF, ixF, iaF, PX.slot, iaAF, faF, ldF, D.mem, stF, bxF, mkSF, boundF, fldF, ixAF, mmF2, D.plain, D.isPure, optAll, D.dull, callVF, splice, D.cells, D.one, sets, resT, D.flat, D.flat0, D.simple, Nat.reduceBNe, Nat.reduceLT, reduceIte, Nat.reduceEqDiff, Nat.reduceAdd, Nat.reduceMul, Nat.reduceSub, Nat.reduceLeDiff, Int.reduceToNat, Int.reduceLT, Int.reduceLE, Int.reduceEq, Int.reduceNeg, Int.reduceSub, Int.reduceAdd, Int.reduceMul, stG_own]
  repeat (refine ⟨by decide, ?_⟩)
  refine callF_of v0 ?_
  (refine ev ?_; try exact ⟨⟩)
  repeat (refine ⟨by decide, ?_⟩)
  exact ⟨_, _, .inr (.inl ⟨rfl, rfl⟩), by simp [Pl.D]⟩
 ·simp only [Pl.D, evX, evY, evZ, forall_const, implies_true, initE, stepF, D.clean, mvF, moF, tkF, shF, ariF, ciF, catF, scF, ebF, eqF, eqOk, eqPr, enF, notF, ngF, cvF, csF, csbF, lenF, lenSF, ixF, iaF, PX.slot, iaAF, faF, ldF, D.mem, stF, bxF, mkSF, boundF, fldF, ixAF, mmF2, D.plain, D.isPure, optAll, D.dull, callVF, splice, D.cells, D.one, sets, resT, D.flat, D.flat0, D.simple, Nat.reduceBNe, Nat.reduceLT, reduceIte, Nat.reduceEqDiff, Nat.reduceAdd, Nat.reduceMul, Nat.reduceSub, Nat.reduceLeDiff, Int.reduceToNat, Int.reduceLT, Int.reduceLE, Int.reduceEq, Int.reduceNeg, Int.reduceSub, Int.reduceAdd, Int.reduceMul, stG_own]
  repeat (refine ⟨by decide, ?_⟩)
  refine callF_of v1 ?_
  (refine ev ?_; try exact ⟨⟩)
  repeat (refine ⟨by decide, ?_⟩)
  exact ⟨_, _, .inr (.inr (.inl ⟨rfl, rfl⟩)), by simp [Pl.D]⟩
 ·simp only [Pl.D, evX, evY, evZ, forall_const, implies_true, initE, stepF, D.clean, mvF, moF, tkF, shF, ariF, ciF, catF, scF, ebF, eqF, eqOk, eqPr, enF, notF, ngF, cvF, csF, csbF, lenF, lenSF, ixF, iaF, PX.slot, iaAF, faF, ldF, D.mem, stF, bxF, mkSF, boundF, fldF, ixAF, mmF2, D.plain, D.isPure, optAll, D.dull, callVF, splice, D.cells, D.one, sets, resT, D.flat, D.flat0, D.simple, Nat.reduceBNe, Nat.reduceLT, reduceIte, Nat.reduceEqDiff, Nat.reduceAdd, Nat.reduceMul, Nat.reduceSub, Nat.reduceLeDiff, Int.reduceToNat, Int.reduceLT, Int.reduceLE, Int.reduceEq, Int.reduceNeg, Int.reduceSub, Int.reduceAdd, Int.reduceMul, stG_own]
  repeat (refine ⟨by decide, ?_⟩)
  refine callF_of v2 ?_
  (refine ev ?_; try exact ⟨⟩)
  repeat (refine ⟨by decide, ?_⟩)
  exact ⟨_, _, .inr (.inr (.inr ⟨rfl, rfl⟩)), by simp [Pl.D]⟩
 ·simp only [Pl.D, evX, evY, evZ, forall_const, implies_true, initE, stepF, D.clean, mvF, moF, tkF, shF, ariF, ciF, catF, scF, ebF, eqF, eqOk, eqPr, enF, notF, ngF, cvF, csF, csbF, lenF, lenSF, ixF, iaF, PX.slot, iaAF, faF, ldF, D.mem, stF, bxF, mkSF, boundF, fldF, ixAF, mmF2, D.plain, D.isPure, optAll, D.dull, callVF, splice, D.cells, D.one, sets, resT, D.flat, D.flat0, D.simple, Nat.reduceBNe, Nat.reduceLT, reduceIte, Nat.reduceEqDiff, Nat.reduceAdd, Nat.reduceMul, Nat.reduceSub, Nat.reduceLeDiff, Int.reduceToNat, Int.reduceLT, Int.reduceLE, Int.reduceEq, Int.reduceNeg, Int.reduceSub, Int.reduceAdd, Int.reduceMul, stG_own]
  refine callF_of v3 ?_
  (refine ev ?_; try exact ⟨⟩)
  rfl
theorem V3.sf2 {v : V3} (h : v.CB 2 12) : v.SF := h.sf (by decide) (by decide) (by decide)
theorem Pl.sf (p : Pl) : p.m.SF := ⟨V3.sf2 (p.cb 0), V3.sf2 (p.cb 3), V3.sf2 (p.cb 6), V3.sf2 (p.cb 9)⟩
set_option maxHeartbeats 2000000 in
theorem Tryz.lmake (p : Pl) (hp : p.ok) : Con Tryz.prog Tryz.L 15 [.agg p.D] (.agg p.m.L) := by
 have mo := Tryz.lmodel p hp
 have af := Tryz.waffine p.m p.sf
 refine rule15 Tryz.hL rfl rfl rfl ?_
 simp only [Pl.D, M3.F, M3.L, pc15, rs15, oU, oC, evX, evY, evZ, forall_const, implies_true, initE, stepF, D.clean, mvF, moF, tkF, shF, ariF, ciF, catF, scF, ebF, eqF, eqOk, eqPr, enF, notF, ngF, cvF, csF, csbF, lenF, lenSF, ixF, iaF, PX.slot, iaAF, faF, ldF, D.mem, stF, bxF, mkSF, boundF, fldF, ixAF, mmF2, D.plain, D.isPure, optAll, D.dull, callVF, splice, D.cells, D.one, sets, resT, D.flat, D.flat0, D.simple, Nat.reduceBNe, Nat.reduceLT, reduceIte, Nat.reduceEqDiff, Nat.reduceAdd, Nat.reduceMul, Nat.reduceSub, Nat.reduceLeDiff, Int.reduceToNat, Int.reduceLT, Int.reduceLE, Int.reduceEq, Int.reduceNeg, Int.reduceSub, Int.reduceAdd, Int.reduceMul, stG_own] at mo af ⊢
 repeat (refine ⟨by decide, ?_⟩)
 refine callF_of mo ?_
 (refine ev ?_; try exact ⟨⟩)
 repeat (refine ⟨by decide, ?_⟩)
 refine callF_of af ?_
 (refine ev ?_; try exact ⟨⟩)
 all_goals rfl
/-- digits of numbers with a common denominator -/
theorem CB.rd {D k : Nat} {q : Rat} (h : CB D k q) (h0 : 0 < D) (h1 : D ≤ 1000000000) (h2 : k ≤ 1000000000) : rd q ≤ 10 := by
 obtain ⟨u, h3, h4⟩ := h
 have : NB 9 9 q := ⟨u, D, h0, h1, Nat.le_trans h3 h2, h4⟩
 have := rd_nb this
 omega
theorem V3.CB.rd {D k : Nat} {v : V3} (h : v.CB D k) (h0 : 0 < D) (h1 : D ≤ 1000000000) (h2 : k ≤ 1000000000) : v.rd 10 := ⟨h.1.rd h0 h1 h2, h.2.1.rd h0 h1 h2, h.2.2.rd h0 h1 h2⟩
theorem Pl.rd (p : Pl) : p.m.rd 10 := ⟨⟨(p.cb 0).rd (by decide) (by decide) (by decide), (p.cb 3).rd (by decide) (by decide) (by decide), (p.cb 6).rd (by decide) (by decide) (by decide)⟩, (p.cb 9).rd (by decide) (by decide) (by decide)⟩
end Go.Proofs

/-
 AFFINE: known() = true. Own work.
-/
namespace Go.Proofs
open Go Go.Pi Go.RowKit Go.Shelf Go.Ar Go.Mx

/-- the quarter turn of the examples -/
def turnM : M3 := ⟨⟨⟨0, -1, 0⟩, ⟨1, 0, 0⟩, ⟨0, 0, 1⟩⟩, ⟨2, 0, 0⟩⟩
theorem Tryz.lvecN (x y z : Int) (v : V3) (hx : x.natAbs ≤ 1000000000) (hy : y.natAbs ≤ 1000000000) (hz : z.natAbs ≤ 1000000000) (h1 : (x : Rat) = v.x) (h2 : (y : Rat) = v.y) (h3 : (z : Rat) = v.z) : Con Tryz.prog Tryz.L 22 [.int .i64 x, .int .i64 y, .int .i64 z] (.agg v.L) := by
 have h := Tryz.avec x y z hx hy hz
 rw [h1, h2, h3] at h
 exact h
theorem Tryz.lturn : Con Tryz.prog Tryz.L 57 [] (.agg turnM.L) := by
 have t1 := Tryz.lvecN 0 (-1) 0 turnM.g.a (by decide) (by decide) (by decide) (by decide +kernel) (by decide +kernel) (by decide +kernel)
 have t2 := Tryz.lvecN 1 0 0 turnM.g.b (by decide) (by decide) (by decide) (by decide +kernel) (by decide +kernel) (by decide +kernel)
 have t3 := Tryz.lvecN 0 0 1 turnM.g.c (by decide) (by decide) (by decide) (by decide +kernel) (by decide +kernel) (by decide +kernel)
 have t4 := Tryz.lvecN 2 0 0 turnM.s (by decide) (by decide) (by decide) (by decide +kernel) (by decide +kernel) (by decide +kernel)
 generalize turnM = m at *
 refine rule57 Tryz.hL rfl rfl rfl ?_
 simp only [V3.L, M3.L, pc57, rs57, oU, oC, evX, evY, evZ, forall_const, implies_true, initE, stepF, D.clean, mvF, moF, tkF, shF, ariF, ciF, catF, scF, ebF, eqF, eqOk, eqPr, enF, notF, ngF, cvF, csF, csbF, lenF, lenSF, ixF, iaF, PX.slot, iaAF, faF, ldF, D.mem, stF, bxF, mkSF, boundF, fldF, ixAF, mmF2, D.plain, D.isPure, optAll, D.dull, callVF, splice, D.cells, D.one, sets, resT, D.flat, D.flat0, D.simple, Nat.reduceBNe, Nat.reduceLT, reduceIte, Nat.reduceEqDiff, Nat.reduceAdd, Nat.reduceMul, Nat.reduceSub, Nat.reduceLeDiff, Int.reduceToNat, Int.reduceLT, Int.reduceLE, Int.reduceEq, Int.reduceNeg, Int.reduceSub, Int.reduceAdd, Int.reduceMul, stG_own] at t1 t2 t3 t4 ⊢
 refine callF_of t1 ?_
 (refine ev ?_; try exact ⟨⟩)
 refine callF_of t2 ?_
 (refine ev ?_; try exact ⟨⟩)
 refine callF_of t3 ?_
 (refine ev ?_; try exact ⟨⟩)
 refine callF_of t4 ?_
 (refine ev ?_; try exact ⟨⟩)
 rfl
/-! what Fixed needs -/
def M3.CB (D k : Nat) (m : M3) : Prop := m.g.a.CB D k ∧ m.g.b.CB D k ∧ m.g.c.CB D k ∧ m.s.CB D k
theorem V3.CB.at' {D k : Nat} {v : V3} (h : v.CB D k) (i : Nat) : Go.Proofs.CB D k (v.at' i) := by
 unfold V3.at'; split
 ·exact h.1
 ·split
  ·exact h.2.1
  ·exact h.2.2
theorem V3.CB.sub {D k l : Nat} {u v : V3} (h : u.CB D k) (h' : v.CB D l) : (u.sub v).CB D (k + l) := ⟨h.1.sub h'.1, h.2.1.sub h'.2.1, h.2.2.sub h'.2.2⟩
theorem cb20 : CB 2 2 0 := ⟨0, by decide, by decide +kernel⟩
theorem cb21 : CB 2 2 1 := ⟨2, by decide, by decide +kernel⟩
theorem M3.CB.fr {m : M3} (h : m.CB 2 12) (i : Nat) : (m.fr i).CB 2 14 := by
 have o : ∀ i, (G3.one.row i).CB 2 2 := fun i => by
  unfold G3.row; split
  ·exact ⟨cb21, cb20, cb20⟩
  ·split
   ·exact ⟨cb20, cb21, cb20⟩
   ·exact ⟨cb20, cb20, cb21⟩
 have r : (m.g.row i).CB 2 12 := by
  unfold G3.row; split
  ·exact h.1
  ·split
   ·exact h.2.1
   ·exact h.2.2.1
 exact r.sub (o i)
theorem M3.CB.rbs {m : M3} (h : m.CB 2 12) (w n : Nat) : RBs 2 3 n (wideM w m.fF fun i _ => m.fy i) := fun i _ => by
 refine ⟨2, by decide, by decide, fun j _ => ?_⟩
 unfold wideM
 split
 ·obtain ⟨u, h1, h2⟩ := (h.fr i).at' j
  exact ⟨u, Nat.le_trans h1 (by decide), h2⟩
 ·obtain ⟨u, h1, h2⟩ := (h.2.2.2.at' i).neg
  exact ⟨u, Nat.le_trans h1 (by decide), h2⟩
theorem M3.CB.rbF {m : M3} (h : m.CB 2 12) (n : Nat) : RBs 2 3 n m.fF := fun i _ => by
 refine ⟨2, by decide, by decide, fun j _ => ?_⟩
 obtain ⟨u, h1, h2⟩ := (h.fr i).at' j
 exact ⟨u, Nat.le_trans h1 (by decide), h2⟩
theorem M3.CB.rd {m : M3} (h : m.CB 2 12) : m.rd 10 := ⟨⟨h.1.rd (by decide) (by decide) (by decide), h.2.1.rd (by decide) (by decide) (by decide), h.2.2.1.rd (by decide) (by decide) (by decide)⟩, h.2.2.2.rd (by decide) (by decide) (by decide)⟩
theorem Pl.mcb (p : Pl) : p.m.CB 2 12 := ⟨p.cb 0, p.cb 3, p.cb 6, p.cb 9⟩
theorem Tryz.lFixed (m : M3) (h : m.CB 2 12) : Con Tryz.prog Tryz.L 14 [.agg m.L] (fixR (redM 3 (wideM 3 m.fF fun i _ => m.fy i) 3) (redM 3 m.fF 3)) :=
 Tryz.aFixed m 3 rfl (M3.rd_mono h.rd (by decide)) (h.rbs 3 4) (h.rbF 3)
/-! the quarter turn's fixed places -/
theorem turn_S : (redM 3 (wideM 3 turnM.fF fun i _ => turnM.fy i) 3).lead = [0, 1] := by decide +kernel
theorem turn_S0 : (redM 3 (wideM 3 turnM.fF fun i _ => turnM.fy i) 3).F 2 3 = 0 := by decide +kernel
theorem turn_P : solV (redM 3 (wideM 3 turnM.fF fun i _ => turnM.fy i) 3) 3 0 = 1 ∧ solV (redM 3 (wideM 3 turnM.fF fun i _ => turnM.fy i) 3) 3 1 = 1 ∧ solV (redM 3 (wideM 3 turnM.fF fun i _ => turnM.fy i) 3) 3 2 = 0 := by decide +kernel
theorem turn_K : (freeC (redM 3 turnM.fF 3).lead 3).length = 1 ∧ kerM (redM 3 turnM.fF 3) 3 0 0 = 0 ∧ kerM (redM 3 turnM.fF 3) 3 0 1 = 0 ∧ kerM (redM 3 turnM.fF 3) 3 0 2 = 1 := by decide +kernel
theorem turn_cb : turnM.CB 2 12 := by
 have z : CB 2 12 0 := cb20.mono (by decide)
 have o : CB 2 12 1 := cb21.mono (by decide)
 exact ⟨⟨z, ⟨-2, by decide, by decide +kernel⟩, z⟩, ⟨o, z, z⟩, ⟨z, z, o⟩, ⟨⟨4, by decide, by decide +kernel⟩, z, z⟩⟩
theorem Tryz.lturnFixed : Con Tryz.prog Tryz.L 14 [.agg turnM.L] (.tup [.agg (V3.L ⟨1, 1, 0⟩), .sl 1 (V3.L ⟨0, 0, 1⟩), .bool true, .int .i64 0]) := by
 have h := Tryz.lFixed turnM turn_cb
 have hS := turn_S; have hS0 := turn_S0; obtain ⟨p0, p1, p2⟩ := turn_P; obtain ⟨k0, k1, k2, k3⟩ := turn_K
 generalize redM 3 (wideM 3 turnM.fF fun i _ => turnM.fy i) 3 = S at *
 generalize redM 3 turnM.fF 3 = K at *
 have hok : okS 3 3 S := fun i h1 h2 => by
  rw [hS] at h1
  obtain rfl : i = 2 := by simp at h1; omega
  exact hS0
 rw [show fixR S K = _ from if_pos hok, k0] at h
 have e1 : V3.of (solV S 3) = ⟨1, 1, 0⟩ := by unfold V3.of; rw [p0, p1, p2]
 have e2 : fixK K 1 = V3.L ⟨0, 0, 1⟩ := by
  rw [fixK_succ]
  have : V3.of (kerM K 3 0) = ⟨0, 0, 1⟩ := by unfold V3.of; rw [k1, k2, k3]
  rw [this]
  rfl
 rw [e1, e2] at h
 exact h
def shearM : M3 := ⟨shG ⟨1, 0, 0⟩ ⟨0, 0, 2⟩, V3.zero⟩
theorem V3.ext' {u v : V3} (h1 : u.x = v.x) (h2 : u.y = v.y) (h3 : u.z = v.z) : u = v := by cases u; cases v; simp_all
set_option maxHeartbeats 4000000 in
theorem Tryz.lknown : Con Tryz.prog Tryz.L 13 [] (.bool true) := by
 have q : ∀ (x : Rat), rd x ≤ 2 → rd x ≤ 90 := fun x h => by omega
 have v1 := Tryz.lvecN 1 0 0 ⟨1, 0, 0⟩ (by decide) (by decide) (by decide) (by decide +kernel) (by decide +kernel) (by decide +kernel)
 have v2 := Tryz.lvecN 0 0 2 ⟨0, 0, 2⟩ (by decide) (by decide) (by decide) (by decide +kernel) (by decide +kernel) (by decide +kernel)
 have v3 := Tryz.lvecN 3 4 5 ⟨3, 4, 5⟩ (by decide) (by decide) (by decide) (by decide +kernel) (by decide +kernel) (by decide +kernel)
 have v4 := Tryz.lvecN 3 4 11 ⟨3, 4, 11⟩ (by decide) (by decide) (by decide) (by decide +kernel) (by decide +kernel) (by decide +kernel)
 have v5 := Tryz.lvecN 1 1 0 ⟨1, 1, 0⟩ (by decide) (by decide) (by decide) (by decide +kernel) (by decide +kernel) (by decide +kernel)
 have v6 := Tryz.lvecN 0 0 1 ⟨0, 0, 1⟩ (by decide) (by decide) (by decide) (by decide +kernel) (by decide +kernel) (by decide +kernel)
 have v7 := Tryz.lvecN 0 (-1) 0 ⟨0, -1, 0⟩ (by decide) (by decide) (by decide) (by decide +kernel) (by decide +kernel) (by decide +kernel)
 have sh : Con Tryz.prog Tryz.L 28 [.agg (V3.L ⟨1, 0, 0⟩), .agg (V3.L ⟨0, 0, 2⟩)] (.tup [.agg shearM.L, .int .i64 0]) := Tryz.aShear ⟨1, 0, 0⟩ ⟨0, 0, 2⟩ ⟨by decide +kernel, by decide +kernel, by decide +kernel⟩ ⟨by decide +kernel, by decide +kernel, by decide +kernel⟩ (by decide +kernel)
 have hA : (shearM.g.app ⟨3, 4, 5⟩).add shearM.s = ⟨3, 4, 11⟩ := V3.ext' (by decide +kernel) (by decide +kernel) (by decide +kernel)
 have ap := Tryz.aApply shearM ⟨3, 4, 5⟩ ⟨⟨⟨by decide +kernel, by decide +kernel, by decide +kernel⟩, ⟨by decide +kernel, by decide +kernel, by decide +kernel⟩, ⟨by decide +kernel, by decide +kernel, by decide +kernel⟩⟩, ⟨by decide +kernel, by decide +kernel, by decide +kernel⟩⟩ ⟨by decide +kernel, by decide +kernel, by decide +kernel⟩ (by rw [hA]; exact ⟨by decide +kernel, by decide +kernel, by decide +kernel⟩)
 rw [hA] at ap
 have tu := Tryz.lturn
 have fi := Tryz.lturnFixed
 have hB : turnM.g.tr.app ⟨1, 0, 0⟩ = ⟨0, -1, 0⟩ := V3.ext' (by decide +kernel) (by decide +kernel) (by decide +kernel)
 have hC : (0 : Rat) - V3.dot ⟨1, 0, 0⟩ turnM.s = -2 := by decide +kernel
 have pu := Tryz.aPull turnM ⟨1, 0, 0⟩ 0 (M3.rd_mono turn_cb.rd (by decide)) ⟨by decide +kernel, by decide +kernel, by decide +kernel⟩ (by decide +kernel) (fun h => absurd h.1 (by decide +kernel)) (by rw [hB]; exact fun h => absurd h.2.1 (by decide +kernel)) (by rw [hB]; exact ⟨by decide +kernel, by decide +kernel, by decide +kernel⟩) (by rw [hC]; decide +kernel)
 rw [hB, hC] at pu
 have r2 : rt (-2) = [45, 50] := by decide +kernel
 generalize turnM = T at *
 generalize shearM = M at *
 refine rule13 Tryz.hL rfl rfl rfl ?_
 simp only [V3.L, M3.L, pL, rt0, r2, pc13, rs13, oU, oC, evX, evY, evZ, forall_const, implies_true, initE, stepF, D.clean, mvF, moF, tkF, shF, ariF, ciF, catF, scF, ebF, eqF, eqOk, eqPr, enF, notF, ngF, cvF, csF, csbF, lenF, lenSF, ixF, iaF, PX.slot, iaAF, faF, ldF, D.mem, stF, bxF, mkSF, boundF, fldF, ixAF, mmF2, D.plain, D.isPure, optAll, D.dull, callVF, splice, D.cells, D.one, sets, resT, D.flat, D.flat0, D.simple, Nat.reduceBNe, Nat.reduceLT, reduceIte, Nat.reduceEqDiff, Nat.reduceAdd, Nat.reduceMul, Nat.reduceSub, Nat.reduceLeDiff, Int.reduceToNat, Int.reduceLT, Int.reduceLE, Int.reduceEq, Int.reduceNeg, Int.reduceSub, Int.reduceAdd, Int.reduceMul, stG_own] at v1 v2 v3 v4 v5 v6 v7 sh ap tu fi pu ⊢
 refine callF_of v1 ?_
 (refine ev ?_; try exact ⟨⟩)
 refine callF_of v2 ?_
 (refine ev ?_; try exact ⟨⟩)
 refine callF_of sh ?_
 (refine ev ?_; try exact ⟨⟩)
 refine callF_of v3 ?_
 (refine ev ?_; try exact ⟨⟩)
 refine callF_of ap ?_
 (refine ev ?_; try exact ⟨⟩)
 refine callF_of tu ?_
 (refine ev ?_; try exact ⟨⟩)
 refine callF_of fi ?_
 (refine ev ?_; try exact ⟨⟩)
 refine callF_of tu ?_
 (refine ev ?_; try exact ⟨⟩)
 refine callF_of v1 ?_
 (refine ev ?_; try exact ⟨⟩)
 refine callF_of pu ?_
 (refine ev ?_; try exact ⟨⟩)
 refine callF_of v4 ?_
 (refine ev ?_; try exact ⟨⟩)
 refine callF_of v5 ?_
 (refine ev ?_; try exact ⟨⟩)
 refine ⟨fun _ => ⟨by decide, ?_⟩, fun h => h rfl⟩
 refine callF_of v6 ?_
 (refine ev ?_; try exact ⟨⟩)
 refine callF_of v7 ?_
 (refine ev ?_; try exact ⟨⟩)
end Go.Proofs

/-
 AFFINE: numbers that are not right; AffineApplies; printed by tools/aff7.py. Own work.
-/
namespace Go.Proofs
open Go Go.Pi Go.RowKit Go.Shelf Go.Ar Go.Mx

theorem app_cb {g : G3} {v : V3} {D E k l : Nat} (ha : g.a.CB D k) (hb : g.b.CB D k) (hc : g.c.CB D k) (hv : v.CB E l) : (g.app v).CB (D * E) (3 * (k * l)) := ⟨ha.dot hv, hb.dot hv, hc.dot hv⟩
theorem v3sf {v : V3} {D k : Nat} (h : v.CB D k) (h0 : 0 < D := by decide) (h1 : D ≤ 1000000000 := by decide) (h2 : k ≤ 1000000000 := by decide) : v.SF := h.sf h0 h1 h2
theorem dok {u v : V3} {D E k l : Nat} (h : u.CB D k) (h' : v.CB E l) (h0 : 0 < D * E := by decide) (h1 : D * E ≤ 1000000000 := by decide) (h2 : 2 * (k * l) ≤ 1000000000 := by decide) : u.DotOk v := h.dotOk h' h0 h1 h2
end Go.Proofs

/-
 AFFINE: sizes of the inverse map; AffineInverts; printed by tools/aff8.py. Own work.
-/
namespace Go.Proofs
open Go Go.Pi Go.RowKit Go.Shelf Go.Ar Go.Mx

theorem det_cb {m : M3} (h : m.CB 2 12) : CB 8 10368 m.g.det := (h.1.dot (h.2.1.cross h.2.2.1)).mono (by decide)
theorem xok {u v : V3} {D E k l : Nat} (h : u.CB D k) (h' : v.CB E l) (h0 : 0 < D * E := by decide) (h1 : D * E ≤ 1000000000 := by decide) (h2 : k * l ≤ 1000000000 := by decide) : u.CrossOk v := h.crossOk h' h0 h1 h2
theorem Tryz.wdet2 (m : M3) (h : m.CB 2 12) : Con Tryz.prog Tryz.L 35 [.agg m.F] (fD m.g.det) := by
 have hsf : m.SF := ⟨v3sf h.1, v3sf h.2.1, v3sf h.2.2.1, v3sf h.2.2.2⟩
 have k1 := h.2.1.cross h.2.2.1
 exact Tryz.wdet m hsf (xok h.2.1 h.2.2.1) (v3sf k1) (dok h.1 k1)
end Go.Proofs

/-
 AFFINE: planes with a wrong number; what must not vanish; AffinePlanes; printed by tools/aff9.py. Own work.
-/
namespace Go.Proofs
open Go Go.Pi Go.RowKit Go.Shelf Go.Ar Go.Mx

/-- a plane whose offset is any text -/
def pT (v : V3) (b : List UInt8) : List D := [.str (rt v.x), .str (rt v.y), .str (rt v.z), .str b]
theorem V3.CB.col {D k : Nat} {g : G3} (ha : g.a.CB D k) (hb : g.b.CB D k) (hc : g.c.CB D k) (i : Nat) : (g.col i).CB D k := ⟨ha.at' i, hb.at' i, hc.at' i⟩
end Go.Proofs

/-
 AFFINE: what is kept: fixed places with the free directions, a plane pulled and pushed (plain, with the contracts). Own work.
-/
namespace Go.Proofs
open Go Go.Pi Go.RowKit Go.Shelf Go.Ar Go.Mx

/-- the place with the same multiple of the first directions -/
def accP (P : V3) (q : Rat) (K : Nat → V3) : Nat → V3
 | 0 => P
 | i + 1 => ⟨(accP P q K i).x + q * (K i).x, (accP P q K i).y + q * (K i).y, (accP P q K i).z + q * (K i).z⟩
/-- sizes -/
def V3.nb (k l : Nat) (v : V3) : Prop := NB k l v.x ∧ NB k l v.y ∧ NB k l v.z
theorem V3.nb_rd {k l : Nat} {v : V3} (h : v.nb k l) (h1 : l ≤ k) : v.rd (k + 1) := ⟨rd_of_nb (h.1.mono (Nat.le_refl _) h1), rd_of_nb (h.2.1.mono (Nat.le_refl _) h1), rd_of_nb (h.2.2.mono (Nat.le_refl _) h1)⟩
/-! a plane pulled and pushed -/
end Go.Proofs

/-
 AFFINE: what is known of Fixed, its sizes kept from the eye of the elaborator. Own work.
-/
namespace Go.Proofs
open Go Go.Pi Go.RowKit Go.Shelf Go.Ar Go.Mx

end Go.Proofs

/-
 AFFINE: AffineKeeps; printed by tools/aff10.py. Own work.
-/
namespace Go.Proofs
open Go Go.Pi Go.RowKit Go.Shelf Go.Ar Go.Mx

end Go.Proofs

/-
 AFFINE: the numbers of a vector and of a map, as the law lists them; which are long or wrong. Own work.
-/
namespace Go.Proofs
open Go Go.Pi Go.RowKit Go.Shelf Go.Ar Go.Mx

/-- the numbers of a map, as the law lists them -/
def TM.all (m : TM) : List D := m.s.L ++ m.a.L ++ m.b.L ++ m.c.L
end Go.Proofs

/-
 AFFINE: maps with wrong numbers; Equal; the reference's Identity; printed by tools/aff11.py. Own work.
-/
namespace Go.Proofs
open Go Go.Pi Go.RowKit Go.Shelf Go.Ar Go.Mx

def TM.same (m n : TM) : Prop := m.a.x = n.a.x ∧ m.a.y = n.a.y ∧ m.a.z = n.a.z ∧ m.b.x = n.b.x ∧ m.b.y = n.b.y ∧ m.b.z = n.b.z ∧ m.c.x = n.c.x ∧ m.c.y = n.c.y ∧ m.c.z = n.c.z ∧ m.s.x = n.s.x ∧ m.s.y = n.s.y ∧ m.s.z = n.s.z
end Go.Proofs

/-
 AFFINE: AffineMakes; printed by tools/aff13.py. Own work.
-/
namespace Go.Proofs
open Go Go.Pi Go.RowKit Go.Shelf Go.Ar Go.Mx

def T3.txl (v : T3) : List (List UInt8) := [v.x, v.y, v.z]
def T3.short (v : T3) : Prop := ∀ s ∈ v.txl, s.length ≤ 30
theorem T3.short_iff (v : T3) : v.short ↔ v.sz 30 := by
 unfold T3.short T3.txl T3.sz
 simp only [List.forall_mem_cons, List.not_mem_nil, false_implies, implies_true, and_true]
/-- right numbers of at most 30 bytes -/
theorem T3.val {v : T3} (h : v.ok) (hs : v.short) : ∃ u : V3, v = u.t ∧ u.rd 30 := by
 obtain ⟨⟨p, hp, _⟩, ⟨q, hq, _⟩, ⟨r, hr, _⟩⟩ := h
 obtain ⟨h1, h2, h3⟩ := v.short_iff.1 hs
 rw [hp] at h1; rw [hq] at h2; rw [hr] at h3
 refine ⟨⟨p, q, r⟩, ?_, len_rd (by decide) h1, len_rd (by decide) h2, len_rd (by decide) h3⟩
 cases v; simp only at hp hq hr; subst hp; subst hq; subst hr; rfl
/-- the rows of a shear, as the law writes them -/
def shW (n d : V3) : G3 := ⟨⟨d.x * n.x + 1, d.x * n.y, d.x * n.z⟩, ⟨d.y * n.x, d.y * n.y + 1, d.y * n.z⟩, ⟨d.z * n.x, d.z * n.y, d.z * n.z + 1⟩⟩
end Go.Proofs

/-
 AFFINE: grid.times; printed by tools/aff14.py. Own work.
-/
namespace Go.Proofs
open Go Go.Pi Go.RowKit Go.Shelf Go.Ar Go.Mx

set_option maxHeartbeats 2000000 in
theorem Tryz.atimesC0 {k l : Nat} (g h : G3) (hg : g.rd k) (hh : h.rd l) (hkl : k + l ≤ 1600) : Con Tryz.prog Tryz.L 136 [.int .i64 0, .pt g.L, .pt [.int .i64 0], .pt h.L] (.str (rt (g.a.dot (h.col 0)))) ∧ Con Tryz.prog Tryz.L 136 [.int .i64 1, .pt g.L, .pt [.int .i64 0], .pt h.L] (.str (rt (g.a.dot (h.col 1)))) ∧ Con Tryz.prog Tryz.L 136 [.int .i64 2, .pt g.L, .pt [.int .i64 0], .pt h.L] (.str (rt (g.a.dot (h.col 2)))) := by
 have ht := G3.rd_tr hh
 refine ⟨?_, ?_, ?_⟩
 ·have c := Tryz.acol0 h
  have d := Tryz.adot g.a (h.col 0) hg.1 ht.1 hkl
  refine rule136 Tryz.hL rfl rfl rfl ?_
  simp only [V3.L, G3.L, M3.L, pc136, rs136, oU, oC, evX, evY, evZ, forall_const, implies_true, initE, stepF, D.clean, mvF, moF, tkF, shF, ariF, ciF, catF, scF, ebF, eqF, eqOk, eqPr, enF, notF, ngF, cvF, csF, csbF, lenF, lenSF, ixF, iaF, PX.slot, iaAF, faF, ldF, D.mem, stF, bxF, mkSF, boundF, fldF, ixAF, mmF2, D.plain, D.isPure, optAll, D.dull, callVF, splice, D.cells, D.one, sets, resT, D.flat, D.flat0, D.simple, Nat.reduceBNe, Nat.reduceLT, reduceIte, Nat.reduceEqDiff, Nat.reduceAdd, Nat.reduceMul, Nat.reduceSub, Nat.reduceLeDiff, Int.reduceToNat, Int.reduceLT, Int.reduceLE, Int.reduceEq, Int.reduceNeg, Int.reduceSub, Int.reduceAdd, Int.reduceMul, stG_own] at c d ⊢
  repeat (refine ⟨by decide, ?_⟩)
  refine callF_of c ?_
  (refine ev ?_; try exact ⟨⟩)
  repeat (refine ⟨by decide, ?_⟩)
  refine callF_of d ?_
  (refine ev ?_; try exact ⟨⟩)
 ·have c := Tryz.acol1 h
  have d := Tryz.adot g.a (h.col 1) hg.1 ht.2.1 hkl
  refine rule136 Tryz.hL rfl rfl rfl ?_
  simp only [V3.L, G3.L, M3.L, pc136, rs136, oU, oC, evX, evY, evZ, forall_const, implies_true, initE, stepF, D.clean, mvF, moF, tkF, shF, ariF, ciF, catF, scF, ebF, eqF, eqOk, eqPr, enF, notF, ngF, cvF, csF, csbF, lenF, lenSF, ixF, iaF, PX.slot, iaAF, faF, ldF, D.mem, stF, bxF, mkSF, boundF, fldF, ixAF, mmF2, D.plain, D.isPure, optAll, D.dull, callVF, splice, D.cells, D.one, sets, resT, D.flat, D.flat0, D.simple, Nat.reduceBNe, Nat.reduceLT, reduceIte, Nat.reduceEqDiff, Nat.reduceAdd, Nat.reduceMul, Nat.reduceSub, Nat.reduceLeDiff, Int.reduceToNat, Int.reduceLT, Int.reduceLE, Int.reduceEq, Int.reduceNeg, Int.reduceSub, Int.reduceAdd, Int.reduceMul, stG_own] at c d ⊢
  repeat (refine ⟨by decide, ?_⟩)
  refine callF_of c ?_
  (refine ev ?_; try exact ⟨⟩)
  repeat (refine ⟨by decide, ?_⟩)
  refine callF_of d ?_
  (refine ev ?_; try exact ⟨⟩)
 ·have c := Tryz.acol2 h
  have d := Tryz.adot g.a (h.col 2) hg.1 ht.2.2 hkl
  refine rule136 Tryz.hL rfl rfl rfl ?_
  simp only [V3.L, G3.L, M3.L, pc136, rs136, oU, oC, evX, evY, evZ, forall_const, implies_true, initE, stepF, D.clean, mvF, moF, tkF, shF, ariF, ciF, catF, scF, ebF, eqF, eqOk, eqPr, enF, notF, ngF, cvF, csF, csbF, lenF, lenSF, ixF, iaF, PX.slot, iaAF, faF, ldF, D.mem, stF, bxF, mkSF, boundF, fldF, ixAF, mmF2, D.plain, D.isPure, optAll, D.dull, callVF, splice, D.cells, D.one, sets, resT, D.flat, D.flat0, D.simple, Nat.reduceBNe, Nat.reduceLT, reduceIte, Nat.reduceEqDiff, Nat.reduceAdd, Nat.reduceMul, Nat.reduceSub, Nat.reduceLeDiff, Int.reduceToNat, Int.reduceLT, Int.reduceLE, Int.reduceEq, Int.reduceNeg, Int.reduceSub, Int.reduceAdd, Int.reduceMul, stG_own] at c d ⊢
  repeat (refine ⟨by decide, ?_⟩)
  refine callF_of c ?_
  (refine ev ?_; try exact ⟨⟩)
  repeat (refine ⟨by decide, ?_⟩)
  refine callF_of d ?_
  (refine ev ?_; try exact ⟨⟩)
set_option maxHeartbeats 2000000 in
theorem Tryz.atimesC1 {k l : Nat} (g h : G3) (hg : g.rd k) (hh : h.rd l) (hkl : k + l ≤ 1600) : Con Tryz.prog Tryz.L 136 [.int .i64 0, .pt g.L, .pt [.int .i64 1], .pt h.L] (.str (rt (g.b.dot (h.col 0)))) ∧ Con Tryz.prog Tryz.L 136 [.int .i64 1, .pt g.L, .pt [.int .i64 1], .pt h.L] (.str (rt (g.b.dot (h.col 1)))) ∧ Con Tryz.prog Tryz.L 136 [.int .i64 2, .pt g.L, .pt [.int .i64 1], .pt h.L] (.str (rt (g.b.dot (h.col 2)))) := by
 have ht := G3.rd_tr hh
 refine ⟨?_, ?_, ?_⟩
 ·have c := Tryz.acol0 h
  have d := Tryz.adot g.b (h.col 0) hg.2.1 ht.1 hkl
  refine rule136 Tryz.hL rfl rfl rfl ?_
  simp only [V3.L, G3.L, M3.L, pc136, rs136, oU, oC, evX, evY, evZ, forall_const, implies_true, initE, stepF, D.clean, mvF, moF, tkF, shF, ariF, ciF, catF, scF, ebF, eqF, eqOk, eqPr, enF, notF, ngF, cvF, csF, csbF, lenF, lenSF, ixF, iaF, PX.slot, iaAF, faF, ldF, D.mem, stF, bxF, mkSF, boundF, fldF, ixAF, mmF2, D.plain, D.isPure, optAll, D.dull, callVF, splice, D.cells, D.one, sets, resT, D.flat, D.flat0, D.simple, Nat.reduceBNe, Nat.reduceLT, reduceIte, Nat.reduceEqDiff, Nat.reduceAdd, Nat.reduceMul, Nat.reduceSub, Nat.reduceLeDiff, Int.reduceToNat, Int.reduceLT, Int.reduceLE, Int.reduceEq, Int.reduceNeg, Int.reduceSub, Int.reduceAdd, Int.reduceMul, stG_own] at c d ⊢
  repeat (refine ⟨by decide, ?_⟩)
  refine callF_of c ?_
  (refine ev ?_; try exact ⟨⟩)
  repeat (refine ⟨by decide, ?_⟩)
  refine callF_of d ?_
  (refine ev ?_; try exact ⟨⟩)
 ·have c := Tryz.acol1 h
  have d := Tryz.adot g.b (h.col 1) hg.2.1 ht.2.1 hkl
  refine rule136 Tryz.hL rfl rfl rfl ?_
  simp only [V3.L, G3.L, M3.L, pc136, rs136, oU, oC, evX, evY, evZ, forall_const, implies_true, initE, stepF, D.clean, mvF, moF, tkF, shF, ariF, ciF, catF, scF, ebF, eqF, eqOk, eqPr, enF, notF, ngF, cvF, csF, csbF, lenF, lenSF, ixF, iaF, PX.slot, iaAF, faF, ldF, D.mem, stF, bxF, mkSF, boundF, fldF, ixAF, mmF2, D.plain, D.isPure, optAll, D.dull, callVF, splice, D.cells, D.one, sets, resT, D.flat, D.flat0, D.simple, Nat.reduceBNe, Nat.reduceLT, reduceIte, Nat.reduceEqDiff, Nat.reduceAdd, Nat.reduceMul, Nat.reduceSub, Nat.reduceLeDiff, Int.reduceToNat, Int.reduceLT, Int.reduceLE, Int.reduceEq, Int.reduceNeg, Int.reduceSub, Int.reduceAdd, Int.reduceMul, stG_own] at c d ⊢
  repeat (refine ⟨by decide, ?_⟩)
  refine callF_of c ?_
  (refine ev ?_; try exact ⟨⟩)
  repeat (refine ⟨by decide, ?_⟩)
  refine callF_of d ?_
  (refine ev ?_; try exact ⟨⟩)
 ·have c := Tryz.acol2 h
  have d := Tryz.adot g.b (h.col 2) hg.2.1 ht.2.2 hkl
  refine rule136 Tryz.hL rfl rfl rfl ?_
  simp only [V3.L, G3.L, M3.L, pc136, rs136, oU, oC, evX, evY, evZ, forall_const, implies_true, initE, stepF, D.clean, mvF, moF, tkF, shF, ariF, ciF, catF, scF, ebF, eqF, eqOk, eqPr, enF, notF, ngF, cvF, csF, csbF, lenF, lenSF, ixF, iaF, PX.slot, iaAF, faF, ldF, D.mem, stF, bxF, mkSF, boundF, fldF, ixAF, mmF2, D.plain, D.isPure, optAll, D.dull, callVF, splice, D.cells, D.one, sets, resT, D.flat, D.flat0, D.simple, Nat.reduceBNe, Nat.reduceLT, reduceIte, Nat.reduceEqDiff, Nat.reduceAdd, Nat.reduceMul, Nat.reduceSub, Nat.reduceLeDiff, Int.reduceToNat, Int.reduceLT, Int.reduceLE, Int.reduceEq, Int.reduceNeg, Int.reduceSub, Int.reduceAdd, Int.reduceMul, stG_own] at c d ⊢
  repeat (refine ⟨by decide, ?_⟩)
  refine callF_of c ?_
  (refine ev ?_; try exact ⟨⟩)
  repeat (refine ⟨by decide, ?_⟩)
  refine callF_of d ?_
  (refine ev ?_; try exact ⟨⟩)
set_option maxHeartbeats 2000000 in
theorem Tryz.atimesC2 {k l : Nat} (g h : G3) (hg : g.rd k) (hh : h.rd l) (hkl : k + l ≤ 1600) : Con Tryz.prog Tryz.L 136 [.int .i64 0, .pt g.L, .pt [.int .i64 2], .pt h.L] (.str (rt (g.c.dot (h.col 0)))) ∧ Con Tryz.prog Tryz.L 136 [.int .i64 1, .pt g.L, .pt [.int .i64 2], .pt h.L] (.str (rt (g.c.dot (h.col 1)))) ∧ Con Tryz.prog Tryz.L 136 [.int .i64 2, .pt g.L, .pt [.int .i64 2], .pt h.L] (.str (rt (g.c.dot (h.col 2)))) := by
 have ht := G3.rd_tr hh
 refine ⟨?_, ?_, ?_⟩
 ·have c := Tryz.acol0 h
  have d := Tryz.adot g.c (h.col 0) hg.2.2 ht.1 hkl
  refine rule136 Tryz.hL rfl rfl rfl ?_
  simp only [V3.L, G3.L, M3.L, pc136, rs136, oU, oC, evX, evY, evZ, forall_const, implies_true, initE, stepF, D.clean, mvF, moF, tkF, shF, ariF, ciF, catF, scF, ebF, eqF, eqOk, eqPr, enF, notF, ngF, cvF, csF, csbF, lenF, lenSF, ixF, iaF, PX.slot, iaAF, faF, ldF, D.mem, stF, bxF, mkSF, boundF, fldF, ixAF, mmF2, D.plain, D.isPure, optAll, D.dull, callVF, splice, D.cells, D.one, sets, resT, D.flat, D.flat0, D.simple, Nat.reduceBNe, Nat.reduceLT, reduceIte, Nat.reduceEqDiff, Nat.reduceAdd, Nat.reduceMul, Nat.reduceSub, Nat.reduceLeDiff, Int.reduceToNat, Int.reduceLT, Int.reduceLE, Int.reduceEq, Int.reduceNeg, Int.reduceSub, Int.reduceAdd, Int.reduceMul, stG_own] at c d ⊢
  repeat (refine ⟨by decide, ?_⟩)
  refine callF_of c ?_
  (refine ev ?_; try exact ⟨⟩)
  repeat (refine ⟨by decide, ?_⟩)
  refine callF_of d ?_
  (refine ev ?_; try exact ⟨⟩)
 ·have c := Tryz.acol1 h
  have d := Tryz.adot g.c (h.col 1) hg.2.2 ht.2.1 hkl
  refine rule136 Tryz.hL rfl rfl rfl ?_
  simp only [V3.L, G3.L, M3.L, pc136, rs136, oU, oC, evX, evY, evZ, forall_const, implies_true, initE, stepF, D.clean, mvF, moF, tkF, shF, ariF, ciF, catF, scF, ebF, eqF, eqOk, eqPr, enF, notF, ngF, cvF, csF, csbF, lenF, lenSF, ixF, iaF, PX.slot, iaAF, faF, ldF, D.mem, stF, bxF, mkSF, boundF, fldF, ixAF, mmF2, D.plain, D.isPure, optAll, D.dull, callVF, splice, D.cells, D.one, sets, resT, D.flat, D.flat0, D.simple, Nat.reduceBNe, Nat.reduceLT, reduceIte, Nat.reduceEqDiff, Nat.reduceAdd, Nat.reduceMul, Nat.reduceSub, Nat.reduceLeDiff, Int.reduceToNat, Int.reduceLT, Int.reduceLE, Int.reduceEq, Int.reduceNeg, Int.reduceSub, Int.reduceAdd, Int.reduceMul, stG_own] at c d ⊢
  repeat (refine ⟨by decide, ?_⟩)
  refine callF_of c ?_
  (refine ev ?_; try exact ⟨⟩)
  repeat (refine ⟨by decide, ?_⟩)
  refine callF_of d ?_
  (refine ev ?_; try exact ⟨⟩)
 ·have c := Tryz.acol2 h
  have d := Tryz.adot g.c (h.col 2) hg.2.2 ht.2.2 hkl
  refine rule136 Tryz.hL rfl rfl rfl ?_
  simp only [V3.L, G3.L, M3.L, pc136, rs136, oU, oC, evX, evY, evZ, forall_const, implies_true, initE, stepF, D.clean, mvF, moF, tkF, shF, ariF, ciF, catF, scF, ebF, eqF, eqOk, eqPr, enF, notF, ngF, cvF, csF, csbF, lenF, lenSF, ixF, iaF, PX.slot, iaAF, faF, ldF, D.mem, stF, bxF, mkSF, boundF, fldF, ixAF, mmF2, D.plain, D.isPure, optAll, D.dull, callVF, splice, D.cells, D.one, sets, resT, D.flat, D.flat0, D.simple, Nat.reduceBNe, Nat.reduceLT, reduceIte, Nat.reduceEqDiff, Nat.reduceAdd, Nat.reduceMul, Nat.reduceSub, Nat.reduceLeDiff, Int.reduceToNat, Int.reduceLT, Int.reduceLE, Int.reduceEq, Int.reduceNeg, Int.reduceSub, Int.reduceAdd, Int.reduceMul, stG_own] at c d ⊢
  repeat (refine ⟨by decide, ?_⟩)
  refine callF_of c ?_
  (refine ev ?_; try exact ⟨⟩)
  repeat (refine ⟨by decide, ?_⟩)
  refine callF_of d ?_
  (refine ev ?_; try exact ⟨⟩)
set_option maxRecDepth 100000 in
set_option maxHeartbeats 8000000 in
theorem Tryz.agtimes {k l : Nat} (g h : G3) (hg : g.rd k) (hh : h.rd l) (hkl : k + l ≤ 1600) : Con Tryz.prog Tryz.L 92 [.agg g.L, .agg h.L] (.agg (g.mul h).L) := by
 have e0 := Tryz.aeach 136 [.pt g.L, .pt [.int .i64 0], .pt h.L] ⟨g.a.dot (h.col 0), g.a.dot (h.col 1), g.a.dot (h.col 2)⟩ rfl (Tryz.atimesC0 g h hg hh hkl)
 have e1 := Tryz.aeach 136 [.pt g.L, .pt [.int .i64 1], .pt h.L] ⟨g.b.dot (h.col 0), g.b.dot (h.col 1), g.b.dot (h.col 2)⟩ rfl (Tryz.atimesC1 g h hg hh hkl)
 have e2 := Tryz.aeach 136 [.pt g.L, .pt [.int .i64 2], .pt h.L] ⟨g.c.dot (h.col 0), g.c.dot (h.col 1), g.c.dot (h.col 2)⟩ rfl (Tryz.atimesC2 g h hg hh hkl)
 refine rule92 Tryz.hL rfl rfl rfl ?_
 simp only [V3.L, G3.L, M3.L, G3.mul, pc92, rs92, oU, oC, evX, evY, evZ, forall_const, implies_true, initE, stepF, D.clean, mvF, moF, tkF, shF, ariF, ciF, catF, scF, ebF, eqF, eqOk, eqPr, enF, notF, ngF, cvF, csF, csbF, lenF, lenSF, ixF, iaF, PX.slot, iaAF, faF, ldF, D.mem, stF, bxF, mkSF, boundF, fldF, ixAF, mmF2, D.plain, D.isPure, optAll, D.dull, callVF, splice, D.cells, D.one, sets, resT, D.flat, D.flat0, D.simple, Nat.reduceBNe, Nat.reduceLT, reduceIte, Nat.reduceEqDiff, Nat.reduceAdd, Nat.reduceMul, Nat.reduceSub, Nat.reduceLeDiff, Int.reduceToNat, Int.reduceLT, Int.reduceLE, Int.reduceEq, Int.reduceNeg, Int.reduceSub, Int.reduceAdd, Int.reduceMul, stG_own] at e0 e1 e2 ⊢
 refine loopF_of (fun E => ∃ (w : List D) (b : Bool) (i : Int), ((i = 0 ∧ b = true ∧ w = [.str [], .str [], .str [], .str [], .str [], .str [], .str [], .str [], .str []]) ∨ (i = 1 ∧ b = false ∧ w = [.str (rt (g.a.dot (h.col 0))), .str (rt (g.a.dot (h.col 1))), .str (rt (g.a.dot (h.col 2))), .str [], .str [], .str [], .str [], .str [], .str []]) ∨ (i = 2 ∧ b = false ∧ w = [.str (rt (g.a.dot (h.col 0))), .str (rt (g.a.dot (h.col 1))), .str (rt (g.a.dot (h.col 2))), .str (rt (g.b.dot (h.col 0))), .str (rt (g.b.dot (h.col 1))), .str (rt (g.b.dot (h.col 2))), .str [], .str [], .str []]) ∨ (i = 3 ∧ b = false ∧ w = [.str (rt (g.a.dot (h.col 0))), .str (rt (g.a.dot (h.col 1))), .str (rt (g.a.dot (h.col 2))), .str (rt (g.b.dot (h.col 0))), .str (rt (g.b.dot (h.col 1))), .str (rt (g.b.dot (h.col 2))), .str (rt (g.c.dot (h.col 0))), .str (rt (g.c.dot (h.col 1))), .str (rt (g.c.dot (h.col 2)))])) ∧ E = [(2, .box b g.L), (3, .box b h.L), (4, .box true [.str [], .str [], .str [], .str [], .str [], .str [], .str [], .str [], .str []]), (5, .box true w), (7, .int .i64 i)])
  (fun E => match lk E 7 with | .int _ i => (3 - i).toNat | _ => 0) ⟨_, _, _, .inl ⟨rfl, rfl, rfl⟩, by simp [G3.L]⟩ ?_
 rintro _ ⟨w, b, i, hw, rfl⟩
 rcases hw with ⟨rfl, rfl, rfl⟩ | ⟨rfl, rfl, rfl⟩ | ⟨rfl, rfl, rfl⟩ | ⟨rfl, rfl, rfl⟩
 ·simp only [G3.L, evX, evY, evZ, forall_const, implies_true, initE, stepF, D.clean, mvF, moF, tkF, shF, ariF, ciF, catF, scF, ebF, eqF, eqOk, eqPr, enF, notF, ngF, cvF, csF, csbF, lenF, lenSF, ixF, iaF, PX.slot, iaAF, faF, ldF, D.mem, stF, bxF, mkSF, boundF, fldF, ixAF, mmF2, D.plain, D.isPure, optAll, D.dull, callVF, splice, D.cells, D.one, sets, resT, D.flat, D.flat0, D.simple, Nat.reduceBNe, Nat.reduceLT, reduceIte, Nat.reduceEqDiff, Nat.reduceAdd, Nat.reduceMul, Nat.reduceSub, Nat.reduceLeDiff, Int.reduceToNat, Int.reduceLT, Int.reduceLE, Int.reduceEq, Int.reduceNeg, Int.reduceSub, Int.reduceAdd, Int.reduceMul, stG_own]
  repeat (refine ⟨by decide, ?_⟩)
  refine callF_of e0 ?_
  (refine ev ?_; try exact ⟨⟩)
  repeat (refine ⟨by decide, ?_⟩)
  exact ⟨_, _, _, .inr (.inl ⟨rfl, rfl, rfl⟩), by simp [G3.L]⟩
 ·simp only [G3.L, evX, evY, evZ, forall_const, implies_true, initE, stepF, D.clean, mvF, moF, tkF, shF, ariF, ciF, catF, scF, ebF, eqF, eqOk, eqPr, enF, notF, ngF, cvF, csF, csbF, lenF, lenSF, ixF, iaF, PX.slot, iaAF, faF, ldF, D.mem, stF, bxF, mkSF, boundF, fldF, ixAF, mmF2, D.plain, D.isPure, optAll, D.dull, callVF, splice, D.cells, D.one, sets, resT, D.flat, D.flat0, D.simple, Nat.reduceBNe, Nat.reduceLT, reduceIte, Nat.reduceEqDiff, Nat.reduceAdd, Nat.reduceMul, Nat.reduceSub, Nat.reduceLeDiff, Int.reduceToNat, Int.reduceLT, Int.reduceLE, Int.reduceEq, Int.reduceNeg, Int.reduceSub, Int.reduceAdd, Int.reduceMul, stG_own]
  repeat (refine ⟨by decide, ?_⟩)
  refine callF_of e1 ?_
  (refine ev ?_; try exact ⟨⟩)
  repeat (refine ⟨by decide, ?_⟩)
  exact ⟨_, _, _, .inr (.inr (.inl ⟨rfl, rfl, rfl⟩)), by simp [G3.L]⟩
 ·simp only [G3.L, evX, evY, evZ, forall_const, implies_true, initE, stepF, D.clean, mvF, moF, tkF, shF, ariF, ciF, catF, scF, ebF, eqF, eqOk, eqPr, enF, notF, ngF, cvF, csF, csbF, lenF, lenSF, ixF, iaF, PX.slot, iaAF, faF, ldF, D.mem, stF, bxF, mkSF, boundF, fldF, ixAF, mmF2, D.plain, D.isPure, optAll, D.dull, callVF, splice, D.cells, D.one, sets, resT, D.flat, D.flat0, D.simple, Nat.reduceBNe, Nat.reduceLT, reduceIte, Nat.reduceEqDiff, Nat.reduceAdd, Nat.reduceMul, Nat.reduceSub, Nat.reduceLeDiff, Int.reduceToNat, Int.reduceLT, Int.reduceLE, Int.reduceEq, Int.reduceNeg, Int.reduceSub, Int.reduceAdd, Int.reduceMul, stG_own]
  repeat (refine ⟨by decide, ?_⟩)
  refine callF_of e2 ?_
  (refine ev ?_; try exact ⟨⟩)
  repeat (refine ⟨by decide, ?_⟩)
  exact ⟨_, _, _, .inr (.inr (.inr (⟨rfl, rfl, rfl⟩))), by simp [G3.L]⟩
 ·simp only [G3.L, evX, evY, evZ, forall_const, implies_true, initE, stepF, D.clean, mvF, moF, tkF, shF, ariF, ciF, catF, scF, ebF, eqF, eqOk, eqPr, enF, notF, ngF, cvF, csF, csbF, lenF, lenSF, ixF, iaF, PX.slot, iaAF, faF, ldF, D.mem, stF, bxF, mkSF, boundF, fldF, ixAF, mmF2, D.plain, D.isPure, optAll, D.dull, callVF, splice, D.cells, D.one, sets, resT, D.flat, D.flat0, D.simple, Nat.reduceBNe, Nat.reduceLT, reduceIte, Nat.reduceEqDiff, Nat.reduceAdd, Nat.reduceMul, Nat.reduceSub, Nat.reduceLeDiff, Int.reduceToNat, Int.reduceLT, Int.reduceLE, Int.reduceEq, Int.reduceNeg, Int.reduceSub, Int.reduceAdd, Int.reduceMul, stG_own]
  all_goals rfl
set_option maxHeartbeats 2000000 in
theorem Tryz.aCompose (m n : M3) (hm : m.rd 100) (hn : n.rd 100) (hr : (m.comp n).rd 200) : Con Tryz.prog Tryz.L 44 [.agg m.L, .agg n.L] (.tup [.agg (m.comp n).L, .int .i64 0]) := by
 have cm := Tryz.amcheck m (M3.rd_mono hm (by decide))
 have cn := Tryz.amcheck n (M3.rd_mono hn (by decide))
 have rm := Tryz.arows m
 have rn := Tryz.arows n
 have ti := Tryz.agtimes m.g n.g hm.1 hn.1 (by decide)
 have on := Tryz.aof n.s
 have ap := Tryz.aapp m.g n.s hm.1 hn.2 (by decide)
 have om := Tryz.aof m.s
 have ad := Tryz.aadd (m.g.app n.s) m.s (G3.rd_app hm.1 hn.2) hm.2 (by decide) (by decide)
 have ma : Con Tryz.prog Tryz.L 75 [.agg (m.g.mul n.g).L, .agg ((m.g.app n.s).add m.s).L] (.tup [.agg (m.comp n).L, .int .i64 0]) := Tryz.amade (m.g.mul n.g) ((m.g.app n.s).add m.s) hr.1 hr.2
 refine rule44 Tryz.hL rfl rfl rfl ?_
 simp only [V3.L, G3.L, M3.L, M3.comp, pc44, rs44, oU, oC, evX, evY, evZ, forall_const, implies_true, initE, stepF, D.clean, mvF, moF, tkF, shF, ariF, ciF, catF, scF, ebF, eqF, eqOk, eqPr, enF, notF, ngF, cvF, csF, csbF, lenF, lenSF, ixF, iaF, PX.slot, iaAF, faF, ldF, D.mem, stF, bxF, mkSF, boundF, fldF, ixAF, mmF2, D.plain, D.isPure, optAll, D.dull, callVF, splice, D.cells, D.one, sets, resT, D.flat, D.flat0, D.simple, Nat.reduceBNe, Nat.reduceLT, reduceIte, Nat.reduceEqDiff, Nat.reduceAdd, Nat.reduceMul, Nat.reduceSub, Nat.reduceLeDiff, Int.reduceToNat, Int.reduceLT, Int.reduceLE, Int.reduceEq, Int.reduceNeg, Int.reduceSub, Int.reduceAdd, Int.reduceMul, stG_own] at cm cn rm rn ti on ap om ad ma ⊢
 repeat (refine ⟨by decide, ?_⟩)
 refine callF_of cm ?_
 (refine ev ?_; try exact ⟨⟩)
 repeat (refine ⟨by decide, ?_⟩)
 refine callF_of cn ?_
 (refine ev ?_; try exact ⟨⟩)
 repeat (refine ⟨by decide, ?_⟩)
 refine callF_of rm ?_
 (refine ev ?_; try exact ⟨⟩)
 repeat (refine ⟨by decide, ?_⟩)
 refine callF_of rn ?_
 (refine ev ?_; try exact ⟨⟩)
 repeat (refine ⟨by decide, ?_⟩)
 refine callF_of ti ?_
 (refine ev ?_; try exact ⟨⟩)
 repeat (refine ⟨by decide, ?_⟩)
 refine callF_of on ?_
 (refine ev ?_; try exact ⟨⟩)
 repeat (refine ⟨by decide, ?_⟩)
 refine callF_of ap ?_
 (refine ev ?_; try exact ⟨⟩)
 repeat (refine ⟨by decide, ?_⟩)
 refine callF_of om ?_
 (refine ev ?_; try exact ⟨⟩)
 repeat (refine ⟨by decide, ?_⟩)
 refine callF_of ad ?_
 (refine ev ?_; try exact ⟨⟩)
 repeat (refine ⟨by decide, ?_⟩)
 refine callF_of ma ?_
 (refine ev ?_; try exact ⟨⟩)
 all_goals rfl
end Go.Proofs

/-
 AFFINE: IsIsometry, AffineComposes; printed by tools/aff15.py. Own work.
-/
namespace Go.Proofs
open Go Go.Pi Go.RowKit Go.Shelf Go.Ar Go.Mx

def isoT (g : G3) : Prop := rt (g.mul g.tr).a.x = rt G3.one.a.x ∧ rt (g.mul g.tr).a.y = rt G3.one.a.y ∧ rt (g.mul g.tr).a.z = rt G3.one.a.z ∧ rt (g.mul g.tr).b.x = rt G3.one.b.x ∧ rt (g.mul g.tr).b.y = rt G3.one.b.y ∧ rt (g.mul g.tr).b.z = rt G3.one.b.z ∧ rt (g.mul g.tr).c.x = rt G3.one.c.x ∧ rt (g.mul g.tr).c.y = rt G3.one.c.y ∧ rt (g.mul g.tr).c.z = rt G3.one.c.z
set_option maxHeartbeats 2000000 in
theorem Tryz.aIso (m : M3) (hm : m.rd 100) : Con Tryz.prog Tryz.L 46 [.agg m.L] (.tup [.bool (dB (isoT m.g)), .int .i64 0]) := by
 have ck := Tryz.amcheck m (M3.rd_mono hm (by decide))
 have ro := Tryz.arows m
 have tu := Tryz.aturned m.g
 have ti := Tryz.agtimes m.g m.g.tr hm.1 (G3.rd_tr hm.1) (by decide)
 have un := Tryz.aunit
 refine rule46 Tryz.hL rfl rfl rfl ?_
 simp only [V3.L, G3.L, M3.L, isoT, pc46, rs46, oU, oC, evX, evY, evZ, forall_const, implies_true, initE, stepF, D.clean, mvF, moF, tkF, shF, ariF, ciF, catF, scF, ebF, eqF, eqOk, eqPr, enF, notF, ngF, cvF, csF, csbF, lenF, lenSF, ixF, iaF, PX.slot, iaAF, faF, ldF, D.mem, stF, bxF, mkSF, boundF, fldF, ixAF, mmF2, D.plain, D.isPure, optAll, D.dull, callVF, splice, D.cells, D.one, sets, resT, D.flat, D.flat0, D.simple, Nat.reduceBNe, Nat.reduceLT, reduceIte, Nat.reduceEqDiff, Nat.reduceAdd, Nat.reduceMul, Nat.reduceSub, Nat.reduceLeDiff, Int.reduceToNat, Int.reduceLT, Int.reduceLE, Int.reduceEq, Int.reduceNeg, Int.reduceSub, Int.reduceAdd, Int.reduceMul, stG_own] at ck ro tu ti un ⊢
 repeat (refine ⟨by decide, ?_⟩)
 refine callF_of ck ?_
 (refine ev ?_; try exact ⟨⟩)
 repeat (refine ⟨by decide, ?_⟩)
 refine callF_of ro ?_
 (refine ev ?_; try exact ⟨⟩)
 repeat (refine ⟨by decide, ?_⟩)
 refine callF_of tu ?_
 (refine ev ?_; try exact ⟨⟩)
 repeat (refine ⟨by decide, ?_⟩)
 refine callF_of ti ?_
 (refine ev ?_; try exact ⟨⟩)
 repeat (refine ⟨by decide, ?_⟩)
 refine callF_of un ?_
 (refine ev ?_; try exact ⟨⟩)
 all_goals rfl
/-- whether all of the first hold, one after the other -/
noncomputable def accW (f : Nat → Prop) : Nat → Bool
 | 0 => true
 | t + 1 => accW f t && dB (f t)
theorem accW_iff (f : Nat → Prop) : ∀ n, accW f n = true ↔ ∀ t, t < n → f t
 | 0 => by simp [accW]
 | n + 1 => by
   have ih := accW_iff f n
   show (accW f n && dB (f n)) = true ↔ _
   rw [Bool.and_eq_true, ih, dB_iff]
   exact ⟨fun ⟨h1, h2⟩ t ht => by
    by_cases e : t = n
    ·rw [e]; exact h2
    ·exact h1 t (by omega), fun h => ⟨fun t ht => h t (by omega), h n (by omega)⟩⟩
def isoF (g : G3) : Nat → Prop
 | 0 => ((g.a.dot g.a).num = (1 : Rat).num ∧ ((g.a.dot g.a).den : Int) = (((1 : Rat).den : Nat) : Int))
 | 1 => ((g.a.dot g.b).num = (0 : Rat).num ∧ ((g.a.dot g.b).den : Int) = (((0 : Rat).den : Nat) : Int))
 | 2 => ((g.a.dot g.c).num = (0 : Rat).num ∧ ((g.a.dot g.c).den : Int) = (((0 : Rat).den : Nat) : Int))
 | 3 => ((g.b.dot g.a).num = (0 : Rat).num ∧ ((g.b.dot g.a).den : Int) = (((0 : Rat).den : Nat) : Int))
 | 4 => ((g.b.dot g.b).num = (1 : Rat).num ∧ ((g.b.dot g.b).den : Int) = (((1 : Rat).den : Nat) : Int))
 | 5 => ((g.b.dot g.c).num = (0 : Rat).num ∧ ((g.b.dot g.c).den : Int) = (((0 : Rat).den : Nat) : Int))
 | 6 => ((g.c.dot g.a).num = (0 : Rat).num ∧ ((g.c.dot g.a).den : Int) = (((0 : Rat).den : Nat) : Int))
 | 7 => ((g.c.dot g.b).num = (0 : Rat).num ∧ ((g.c.dot g.b).den : Int) = (((0 : Rat).den : Nat) : Int))
 | 8 => ((g.c.dot g.c).num = (1 : Rat).num ∧ ((g.c.dot g.c).den : Int) = (((1 : Rat).den : Nat) : Int))
 | _ => True
theorem num_den {p q : Rat} : (p.num = q.num ∧ (p.den : Int) = ((q.den : Nat) : Int)) ↔ rt p = rt q := by
 constructor
 ·rintro ⟨h1, h2⟩
  rw [Rat.ext h1 (by exact_mod_cast h2)]
 ·intro h
  rw [rt_inj h]
  exact ⟨rfl, rfl⟩
theorem iso_eq (g : G3) : dB (isoT g) = accW (isoF g) 9 := by
 have h : isoT g ↔ accW (isoF g) 9 = true := by
  rw [accW_iff]
  constructor
  ·rintro ⟨h0, h1, h2, h3, h4, h5, h6, h7, h8⟩ t ht
   match t, ht with
   | 0, _ => exact num_den.2 h0
   | 1, _ => exact num_den.2 h1
   | 2, _ => exact num_den.2 h2
   | 3, _ => exact num_den.2 h3
   | 4, _ => exact num_den.2 h4
   | 5, _ => exact num_den.2 h5
   | 6, _ => exact num_den.2 h6
   | 7, _ => exact num_den.2 h7
   | 8, _ => exact num_den.2 h8
  ·intro h
   exact ⟨num_den.1 (h 0 (by decide)), num_den.1 (h 1 (by decide)), num_den.1 (h 2 (by decide)), num_den.1 (h 3 (by decide)), num_den.1 (h 4 (by decide)), num_den.1 (h 5 (by decide)), num_den.1 (h 6 (by decide)), num_den.1 (h 7 (by decide)), num_den.1 (h 8 (by decide))⟩
 by_cases hi : isoT g
 ·rw [dB_iff.2 hi, h.1 hi]
 ·rw [dB_not.2 hi]
  cases hw : accW (isoF g) 9
  ·rfl
  ·exact absurd (h.2 hw) hi
theorem comp_cb {m n : M3} (h : m.CB 2 12) (h' : n.CB 2 12) : (m.comp n).CB 4 456 := by
 have c := V3.CB.col h'.1 h'.2.1 h'.2.2.1
 have r : ∀ {u : V3}, u.CB 2 12 → V3.CB 4 456 ⟨u.dot (n.g.col 0), u.dot (n.g.col 1), u.dot (n.g.col 2)⟩ := fun hu => ⟨(hu.dot (c 0)).mono (by decide), (hu.dot (c 1)).mono (by decide), (hu.dot (c 2)).mono (by decide)⟩
 exact ⟨r h.1, r h.2.1, r h.2.2.1, ((app_cb h.1 h.2.1 h.2.2.1 h'.2.2.2).add (h.2.2.2.up 2)).mono (by decide)⟩
theorem M3.CB.rdk {D k : Nat} {m : M3} (h : m.CB D k) (h0 : 0 < D) (h1 : D ≤ 1000000000) (h2 : k ≤ 1000000000) : m.rd 10 := ⟨⟨h.1.rd h0 h1 h2, h.2.1.rd h0 h1 h2, h.2.2.1.rd h0 h1 h2⟩, h.2.2.2.rd h0 h1 h2⟩
theorem M3.CB.sfk {D k : Nat} {m : M3} (h : m.CB D k) (h0 : 0 < D) (h1 : D ≤ 1000000000) (h2 : k ≤ 1000000000) : m.SF := ⟨h.1.sf h0 h1 h2, h.2.1.sf h0 h1 h2, h.2.2.1.sf h0 h1 h2, h.2.2.2.sf h0 h1 h2⟩
theorem Tryz.wcompose2 (m n : M3) (h : m.CB 2 12) (h' : n.CB 2 12) : Con Tryz.prog Tryz.L 49 [.agg m.F, .agg n.F] (.agg (m.comp n).F) := by
 have c := V3.CB.col h'.1 h'.2.1 h'.2.2.1
 exact Tryz.wcompose m n (h.sfk (by decide) (by decide) (by decide)) (h'.sfk (by decide) (by decide) (by decide)) (fun i _ => v3sf (c i)) (fun i _ => ⟨dok h.1 (c i), dok h.2.1 (c i), dok h.2.2.1 (c i)⟩) (dok h.1 h'.2.2.2) (dok h.2.1 h'.2.2.2) (dok h.2.2.1 h'.2.2.2) (v3sf (app_cb h.1 h.2.1 h.2.2.1 h'.2.2.2))
set_option maxRecDepth 100000 in
set_option maxHeartbeats 16000000 in
theorem Tryz.lcomposes (p q : Pl) (hp : p.ok) (hq : q.ok) : Con Tryz.prog Tryz.L 9 [.agg p.D, .agg q.D] (.bool true) := by
 have kn := Tryz.lknown
 have mo := Tryz.lmodel p hp
 have mk := Tryz.lmake p hp
 have mp := Tryz.lmodel q hq
 have ml := Tryz.lmake q hq
 have hc := p.mcb
 have hd := q.mcb
 generalize p.m = m at *
 generalize q.m = n at *
 have h4 := comp_cb hc hd
 have hrm := M3.rd_mono hc.rd (show 10 ≤ 100 by decide)
 have co := Tryz.aCompose m n hrm (M3.rd_mono hd.rd (by decide)) (M3.rd_mono (h4.rdk (by decide) (by decide) (by decide)) (by decide))
 have hdr := (det_cb hc).rd (by decide) (by decide) (by decide)
 have dt := Tryz.aDet m hrm (by omega)
 have is := Tryz.aIso m hrm
 rw [iso_eq] at is
 have wz := Tryz.fzero
 have wo := Tryz.fone
 have wc := Tryz.wcompose2 m n hc hd
 have wa := Tryz.waffine (m.comp n) (h4.sfk (by decide) (by decide) (by decide))
 have wd := Tryz.wdet2 m hc
 have td := Tryz.ftext m.g.det ((det_cb hc).sf (by decide) (by decide) (by decide))
 obtain ⟨f, hf⟩ : ∃ f, f = isoF m.g := ⟨_, rfl⟩
 rw [← hf] at is
 have s0 : accW f 1 = (accW f 0 && dB ((m.g.a.dot m.g.a).num = (1 : Rat).num ∧ ((m.g.a.dot m.g.a).den : Int) = (((1 : Rat).den : Nat) : Int))) := by rw [hf]; rfl
 have d0 := Tryz.wdot m.g.a m.g.a (v3sf hc.1) (v3sf hc.1) (dok hc.1 hc.1)
 have s1 : accW f 2 = (accW f 1 && dB ((m.g.a.dot m.g.b).num = (0 : Rat).num ∧ ((m.g.a.dot m.g.b).den : Int) = (((0 : Rat).den : Nat) : Int))) := by rw [hf]; rfl
 have d1 := Tryz.wdot m.g.a m.g.b (v3sf hc.1) (v3sf hc.2.1) (dok hc.1 hc.2.1)
 have s2 : accW f 3 = (accW f 2 && dB ((m.g.a.dot m.g.c).num = (0 : Rat).num ∧ ((m.g.a.dot m.g.c).den : Int) = (((0 : Rat).den : Nat) : Int))) := by rw [hf]; rfl
 have d2 := Tryz.wdot m.g.a m.g.c (v3sf hc.1) (v3sf hc.2.2.1) (dok hc.1 hc.2.2.1)
 have s3 : accW f 4 = (accW f 3 && dB ((m.g.b.dot m.g.a).num = (0 : Rat).num ∧ ((m.g.b.dot m.g.a).den : Int) = (((0 : Rat).den : Nat) : Int))) := by rw [hf]; rfl
 have d3 := Tryz.wdot m.g.b m.g.a (v3sf hc.2.1) (v3sf hc.1) (dok hc.2.1 hc.1)
 have s4 : accW f 5 = (accW f 4 && dB ((m.g.b.dot m.g.b).num = (1 : Rat).num ∧ ((m.g.b.dot m.g.b).den : Int) = (((1 : Rat).den : Nat) : Int))) := by rw [hf]; rfl
 have d4 := Tryz.wdot m.g.b m.g.b (v3sf hc.2.1) (v3sf hc.2.1) (dok hc.2.1 hc.2.1)
 have s5 : accW f 6 = (accW f 5 && dB ((m.g.b.dot m.g.c).num = (0 : Rat).num ∧ ((m.g.b.dot m.g.c).den : Int) = (((0 : Rat).den : Nat) : Int))) := by rw [hf]; rfl
 have d5 := Tryz.wdot m.g.b m.g.c (v3sf hc.2.1) (v3sf hc.2.2.1) (dok hc.2.1 hc.2.2.1)
 have s6 : accW f 7 = (accW f 6 && dB ((m.g.c.dot m.g.a).num = (0 : Rat).num ∧ ((m.g.c.dot m.g.a).den : Int) = (((0 : Rat).den : Nat) : Int))) := by rw [hf]; rfl
 have d6 := Tryz.wdot m.g.c m.g.a (v3sf hc.2.2.1) (v3sf hc.1) (dok hc.2.2.1 hc.1)
 have s7 : accW f 8 = (accW f 7 && dB ((m.g.c.dot m.g.b).num = (0 : Rat).num ∧ ((m.g.c.dot m.g.b).den : Int) = (((0 : Rat).den : Nat) : Int))) := by rw [hf]; rfl
 have d7 := Tryz.wdot m.g.c m.g.b (v3sf hc.2.2.1) (v3sf hc.2.1) (dok hc.2.2.1 hc.2.1)
 have s8 : accW f 9 = (accW f 8 && dB ((m.g.c.dot m.g.c).num = (1 : Rat).num ∧ ((m.g.c.dot m.g.c).den : Int) = (((1 : Rat).den : Nat) : Int))) := by rw [hf]; rfl
 have d8 := Tryz.wdot m.g.c m.g.c (v3sf hc.2.2.1) (v3sf hc.2.2.1) (dok hc.2.2.1 hc.2.2.1)
 have z0 : accW f 0 = true := rfl
 clear hf hrm hdr h4
 generalize m.comp n = C at *
 generalize m.g.det = zd at *
 refine rule9 Tryz.hL rfl rfl rfl ?_
 simp only [fD, Pl.D, M3.F, V3.F, M3.L, V3.L, pc9, rs9, oU, oC, evX, evY, evZ, forall_const, implies_true, initE, stepF, D.clean, mvF, moF, tkF, shF, ariF, ciF, catF, scF, ebF, eqF, eqOk, eqPr, enF, notF, ngF, cvF, csF, csbF, lenF, lenSF, ixF, iaF, PX.slot, iaAF, faF, ldF, D.mem, stF, bxF, mkSF, boundF, fldF, ixAF, mmF2, D.plain, D.isPure, optAll, D.dull, callVF, splice, D.cells, D.one, sets, resT, D.flat, D.flat0, D.simple, Nat.reduceBNe, Nat.reduceLT, reduceIte, Nat.reduceEqDiff, Nat.reduceAdd, Nat.reduceMul, Nat.reduceSub, Nat.reduceLeDiff, Int.reduceToNat, Int.reduceLT, Int.reduceLE, Int.reduceEq, Int.reduceNeg, Int.reduceSub, Int.reduceAdd, Int.reduceMul, stG_own] at kn mo mk mp ml co dt is wz wo wc wa wd td d0 d1 d2 d3 d4 d5 d6 d7 d8 ⊢
 repeat (refine ⟨by decide, ?_⟩)
 refine callF_of kn ?_
 (refine ev ?_; try exact ⟨⟩)
 repeat (refine ⟨by decide, ?_⟩)
 refine callF_of mo ?_
 (refine ev ?_; try exact ⟨⟩)
 repeat (refine ⟨by decide, ?_⟩)
 refine callF_of mp ?_
 (refine ev ?_; try exact ⟨⟩)
 repeat (refine ⟨by decide, ?_⟩)
 refine callF_of mk ?_
 (refine ev ?_; try exact ⟨⟩)
 repeat (refine ⟨by decide, ?_⟩)
 refine callF_of ml ?_
 (refine ev ?_; try exact ⟨⟩)
 repeat (refine ⟨by decide, ?_⟩)
 refine callF_of co ?_
 (refine ev ?_; try exact ⟨⟩)
 repeat (refine ⟨by decide, ?_⟩)
 refine callF_of mk ?_
 (refine ev ?_; try exact ⟨⟩)
 repeat (refine ⟨by decide, ?_⟩)
 refine callF_of dt ?_
 (refine ev ?_; try exact ⟨⟩)
 repeat (refine ⟨by decide, ?_⟩)
 refine callF_of mk ?_
 (refine ev ?_; try exact ⟨⟩)
 repeat (refine ⟨by decide, ?_⟩)
 refine callF_of is ?_
 (refine ev ?_; try exact ⟨⟩)
 refine loopF_of (fun E => ∃ (v : Bool) (i : Int), ((i = 0 ∧ v = accW f 0) ∨ (i = 1 ∧ v = accW f 3) ∨ (i = 2 ∧ v = accW f 6) ∨ (i = 3 ∧ v = accW f 9)) ∧ E = [(5, .box true m.F), (6, .box true n.F), (7, .box true C.L), (8, .int .i64 0), (9, .str (rt zd)), (10, .int .i64 0), (11, .bool (accW f 9)), (12, .int .i64 0), (13, .bool v), (14, .int .i64 i)])
  (fun E => match lk E 14 with | .int _ i => (3 - i).toNat | _ => 0) ⟨_, _, .inl ⟨rfl, rfl⟩, by simp [M3.F, V3.F, M3.L, V3.L, G3.L, z0]⟩ ?_
 rintro _ ⟨v, i, hv, rfl⟩
 rcases hv with ⟨rfl, rfl⟩ | ⟨rfl, rfl⟩ | ⟨rfl, rfl⟩ | ⟨rfl, rfl⟩
 ·simp only [M3.F, V3.F, M3.L, V3.L, G3.L, evX, evY, evZ, forall_const, implies_true, initE, stepF, D.clean, mvF, moF, tkF, shF, ariF, ciF, catF, scF, ebF, eqF, eqOk, eqPr, enF, notF, ngF, cvF, csF, csbF, lenF, lenSF, ixF, iaF, PX.slot, iaAF, faF, ldF, D.mem, stF, bxF, mkSF, boundF, fldF, ixAF, mmF2, D.plain, D.isPure, optAll, D.dull, callVF, splice, D.cells, D.one, sets, resT, D.flat, D.flat0, D.simple, Nat.reduceBNe, Nat.reduceLT, reduceIte, Nat.reduceEqDiff, Nat.reduceAdd, Nat.reduceMul, Nat.reduceSub, Nat.reduceLeDiff, Int.reduceToNat, Int.reduceLT, Int.reduceLE, Int.reduceEq, Int.reduceNeg, Int.reduceSub, Int.reduceAdd, Int.reduceMul, stG_own]
  repeat (refine ⟨by decide, ?_⟩)
  refine loopF_of (fun E => ∃ (v : Bool) (k : Int), ((k = 0 ∧ v = accW f 0) ∨ (k = 1 ∧ v = accW f 1) ∨ (k = 2 ∧ v = accW f 2) ∨ (k = 3 ∧ v = accW f 3)) ∧ E = [(5, .box true m.F), (6, .box true n.F), (7, .box true C.L), (8, .int .i64 0), (9, .str (rt zd)), (10, .int .i64 0), (11, .bool (accW f 9)), (12, .int .i64 0), (13, .bool v), (14, .int .i64 0), (15, .int .i64 k)])
   (fun E => match lk E 15 with | .int _ i => (3 - i).toNat | _ => 0) ⟨_, _, .inl ⟨rfl, rfl⟩, by simp [M3.F, V3.F, M3.L, V3.L, G3.L]⟩ ?_
  rintro _ ⟨v, k, hv, rfl⟩
  rcases hv with ⟨rfl, rfl⟩ | ⟨rfl, rfl⟩ | ⟨rfl, rfl⟩ | ⟨rfl, rfl⟩
  ·cases hb : accW f 0
   ·simp only [M3.F, V3.F, M3.L, V3.L, G3.L, evX, evY, evZ, forall_const, implies_true, initE, stepF, D.clean, mvF, moF, tkF, shF, ariF, ciF, catF, scF, ebF, eqF, eqOk, eqPr, enF, notF, ngF, cvF, csF, csbF, lenF, lenSF, ixF, iaF, PX.slot, iaAF, faF, ldF, D.mem, stF, bxF, mkSF, boundF, fldF, ixAF, mmF2, D.plain, D.isPure, optAll, D.dull, callVF, splice, D.cells, D.one, sets, resT, D.flat, D.flat0, D.simple, Nat.reduceBNe, Nat.reduceLT, reduceIte, Nat.reduceEqDiff, Nat.reduceAdd, Nat.reduceMul, Nat.reduceSub, Nat.reduceLeDiff, Int.reduceToNat, Int.reduceLT, Int.reduceLE, Int.reduceEq, Int.reduceNeg, Int.reduceSub, Int.reduceAdd, Int.reduceMul, stG_own]
    repeat (refine ⟨by decide, ?_⟩)
    refine callF_of wz ?_
    (refine ev ?_; try exact ⟨⟩)
    repeat (refine ⟨by decide, ?_⟩)
    refine callF_of wo ?_
    (refine ev ?_; try exact ⟨⟩)
    repeat (refine ⟨by decide, ?_⟩)
    exact ⟨_, _, .inr (.inl ⟨rfl, rfl⟩), by rw [s0, hb]; simp [M3.F, V3.F, M3.L, V3.L, G3.L]⟩
   ·simp only [M3.F, V3.F, M3.L, V3.L, G3.L, evX, evY, evZ, forall_const, implies_true, initE, stepF, D.clean, mvF, moF, tkF, shF, ariF, ciF, catF, scF, ebF, eqF, eqOk, eqPr, enF, notF, ngF, cvF, csF, csbF, lenF, lenSF, ixF, iaF, PX.slot, iaAF, faF, ldF, D.mem, stF, bxF, mkSF, boundF, fldF, ixAF, mmF2, D.plain, D.isPure, optAll, D.dull, callVF, splice, D.cells, D.one, sets, resT, D.flat, D.flat0, D.simple, Nat.reduceBNe, Nat.reduceLT, reduceIte, Nat.reduceEqDiff, Nat.reduceAdd, Nat.reduceMul, Nat.reduceSub, Nat.reduceLeDiff, Int.reduceToNat, Int.reduceLT, Int.reduceLE, Int.reduceEq, Int.reduceNeg, Int.reduceSub, Int.reduceAdd, Int.reduceMul, stG_own]
    repeat (refine ⟨by decide, ?_⟩)
    refine callF_of wz ?_
    (refine ev ?_; try exact ⟨⟩)
    repeat (refine ⟨by decide, ?_⟩)
    refine callF_of wo ?_
    (refine ev ?_; try exact ⟨⟩)
    repeat (refine ⟨by decide, ?_⟩)
    refine callF_of d0 ?_
    (refine ev ?_; try exact ⟨⟩)
    repeat (refine ⟨by decide, ?_⟩)
    exact ⟨_, _, .inr (.inl ⟨rfl, rfl⟩), by rw [s0, hb]; simp [M3.F, V3.F, M3.L, V3.L, G3.L]⟩
  ·cases hb : accW f 1
   ·simp only [M3.F, V3.F, M3.L, V3.L, G3.L, evX, evY, evZ, forall_const, implies_true, initE, stepF, D.clean, mvF, moF, tkF, shF, ariF, ciF, catF, scF, ebF, eqF, eqOk, eqPr, enF, notF, ngF, cvF, csF, csbF, lenF, lenSF, ixF, iaF, PX.slot, iaAF, faF, ldF, D.mem, stF, bxF, mkSF, boundF, fldF, ixAF, mmF2, D.plain, D.isPure, optAll, D.dull, callVF, splice, D.cells, D.one, sets, resT, D.flat, D.flat0, D.simple, Nat.reduceBNe, Nat.reduceLT, reduceIte, Nat.reduceEqDiff, Nat.reduceAdd, Nat.reduceMul, Nat.reduceSub, Nat.reduceLeDiff, Int.reduceToNat, Int.reduceLT, Int.reduceLE, Int.reduceEq, Int.reduceNeg, Int.reduceSub, Int.reduceAdd, Int.reduceMul, stG_own]
    repeat (refine ⟨by decide, ?_⟩)
    refine callF_of wz ?_
    (refine ev ?_; try exact ⟨⟩)
    repeat (refine ⟨by decide, ?_⟩)
    exact ⟨_, _, .inr (.inr (.inl ⟨rfl, rfl⟩)), by rw [s1, hb]; simp [M3.F, V3.F, M3.L, V3.L, G3.L]⟩
   ·simp only [M3.F, V3.F, M3.L, V3.L, G3.L, evX, evY, evZ, forall_const, implies_true, initE, stepF, D.clean, mvF, moF, tkF, shF, ariF, ciF, catF, scF, ebF, eqF, eqOk, eqPr, enF, notF, ngF, cvF, csF, csbF, lenF, lenSF, ixF, iaF, PX.slot, iaAF, faF, ldF, D.mem, stF, bxF, mkSF, boundF, fldF, ixAF, mmF2, D.plain, D.isPure, optAll, D.dull, callVF, splice, D.cells, D.one, sets, resT, D.flat, D.flat0, D.simple, Nat.reduceBNe, Nat.reduceLT, reduceIte, Nat.reduceEqDiff, Nat.reduceAdd, Nat.reduceMul, Nat.reduceSub, Nat.reduceLeDiff, Int.reduceToNat, Int.reduceLT, Int.reduceLE, Int.reduceEq, Int.reduceNeg, Int.reduceSub, Int.reduceAdd, Int.reduceMul, stG_own]
    repeat (refine ⟨by decide, ?_⟩)
    refine callF_of wz ?_
    (refine ev ?_; try exact ⟨⟩)
    repeat (refine ⟨by decide, ?_⟩)
    refine callF_of d1 ?_
    (refine ev ?_; try exact ⟨⟩)
    repeat (refine ⟨by decide, ?_⟩)
    exact ⟨_, _, .inr (.inr (.inl ⟨rfl, rfl⟩)), by rw [s1, hb]; simp [M3.F, V3.F, M3.L, V3.L, G3.L]⟩
  ·cases hb : accW f 2
   ·simp only [M3.F, V3.F, M3.L, V3.L, G3.L, evX, evY, evZ, forall_const, implies_true, initE, stepF, D.clean, mvF, moF, tkF, shF, ariF, ciF, catF, scF, ebF, eqF, eqOk, eqPr, enF, notF, ngF, cvF, csF, csbF, lenF, lenSF, ixF, iaF, PX.slot, iaAF, faF, ldF, D.mem, stF, bxF, mkSF, boundF, fldF, ixAF, mmF2, D.plain, D.isPure, optAll, D.dull, callVF, splice, D.cells, D.one, sets, resT, D.flat, D.flat0, D.simple, Nat.reduceBNe, Nat.reduceLT, reduceIte, Nat.reduceEqDiff, Nat.reduceAdd, Nat.reduceMul, Nat.reduceSub, Nat.reduceLeDiff, Int.reduceToNat, Int.reduceLT, Int.reduceLE, Int.reduceEq, Int.reduceNeg, Int.reduceSub, Int.reduceAdd, Int.reduceMul, stG_own]
    repeat (refine ⟨by decide, ?_⟩)
    refine callF_of wz ?_
    (refine ev ?_; try exact ⟨⟩)
    repeat (refine ⟨by decide, ?_⟩)
    exact ⟨_, _, .inr (.inr (.inr (⟨rfl, rfl⟩))), by rw [s2, hb]; simp [M3.F, V3.F, M3.L, V3.L, G3.L]⟩
   ·simp only [M3.F, V3.F, M3.L, V3.L, G3.L, evX, evY, evZ, forall_const, implies_true, initE, stepF, D.clean, mvF, moF, tkF, shF, ariF, ciF, catF, scF, ebF, eqF, eqOk, eqPr, enF, notF, ngF, cvF, csF, csbF, lenF, lenSF, ixF, iaF, PX.slot, iaAF, faF, ldF, D.mem, stF, bxF, mkSF, boundF, fldF, ixAF, mmF2, D.plain, D.isPure, optAll, D.dull, callVF, splice, D.cells, D.one, sets, resT, D.flat, D.flat0, D.simple, Nat.reduceBNe, Nat.reduceLT, reduceIte, Nat.reduceEqDiff, Nat.reduceAdd, Nat.reduceMul, Nat.reduceSub, Nat.reduceLeDiff, Int.reduceToNat, Int.reduceLT, Int.reduceLE, Int.reduceEq, Int.reduceNeg, Int.reduceSub, Int.reduceAdd, Int.reduceMul, stG_own]
    repeat (refine ⟨by decide, ?_⟩)
    refine callF_of wz ?_
    (refine ev ?_; try exact ⟨⟩)
    repeat (refine ⟨by decide, ?_⟩)
    refine callF_of d2 ?_
    (refine ev ?_; try exact ⟨⟩)
    repeat (refine ⟨by decide, ?_⟩)
    exact ⟨_, _, .inr (.inr (.inr (⟨rfl, rfl⟩))), by rw [s2, hb]; simp [M3.F, V3.F, M3.L, V3.L, G3.L]⟩
  ·simp only [M3.F, V3.F, M3.L, V3.L, G3.L, evX, evY, evZ, forall_const, implies_true, initE, stepF, D.clean, mvF, moF, tkF, shF, ariF, ciF, catF, scF, ebF, eqF, eqOk, eqPr, enF, notF, ngF, cvF, csF, csbF, lenF, lenSF, ixF, iaF, PX.slot, iaAF, faF, ldF, D.mem, stF, bxF, mkSF, boundF, fldF, ixAF, mmF2, D.plain, D.isPure, optAll, D.dull, callVF, splice, D.cells, D.one, sets, resT, D.flat, D.flat0, D.simple, Nat.reduceBNe, Nat.reduceLT, reduceIte, Nat.reduceEqDiff, Nat.reduceAdd, Nat.reduceMul, Nat.reduceSub, Nat.reduceLeDiff, Int.reduceToNat, Int.reduceLT, Int.reduceLE, Int.reduceEq, Int.reduceNeg, Int.reduceSub, Int.reduceAdd, Int.reduceMul, stG_own]
   repeat (refine ⟨by decide, ?_⟩)
   exact ⟨_, _, .inr (.inl ⟨rfl, rfl⟩), by simp [M3.F, V3.F, M3.L, V3.L, G3.L]⟩
 ·simp only [M3.F, V3.F, M3.L, V3.L, G3.L, evX, evY, evZ, forall_const, implies_true, initE, stepF, D.clean, mvF, moF, tkF, shF, ariF, ciF, catF, scF, ebF, eqF, eqOk, eqPr, enF, notF, ngF, cvF, csF, csbF, lenF, lenSF, ixF, iaF, PX.slot, iaAF, faF, ldF, D.mem, stF, bxF, mkSF, boundF, fldF, ixAF, mmF2, D.plain, D.isPure, optAll, D.dull, callVF, splice, D.cells, D.one, sets, resT, D.flat, D.flat0, D.simple, Nat.reduceBNe, Nat.reduceLT, reduceIte, Nat.reduceEqDiff, Nat.reduceAdd, Nat.reduceMul, Nat.reduceSub, Nat.reduceLeDiff, Int.reduceToNat, Int.reduceLT, Int.reduceLE, Int.reduceEq, Int.reduceNeg, Int.reduceSub, Int.reduceAdd, Int.reduceMul, stG_own]
  repeat (refine ⟨by decide, ?_⟩)
  refine loopF_of (fun E => ∃ (v : Bool) (k : Int), ((k = 0 ∧ v = accW f 3) ∨ (k = 1 ∧ v = accW f 4) ∨ (k = 2 ∧ v = accW f 5) ∨ (k = 3 ∧ v = accW f 6)) ∧ E = [(5, .box true m.F), (6, .box true n.F), (7, .box true C.L), (8, .int .i64 0), (9, .str (rt zd)), (10, .int .i64 0), (11, .bool (accW f 9)), (12, .int .i64 0), (13, .bool v), (14, .int .i64 1), (15, .int .i64 k)])
   (fun E => match lk E 15 with | .int _ i => (3 - i).toNat | _ => 0) ⟨_, _, .inl ⟨rfl, rfl⟩, by simp [M3.F, V3.F, M3.L, V3.L, G3.L]⟩ ?_
  rintro _ ⟨v, k, hv, rfl⟩
  rcases hv with ⟨rfl, rfl⟩ | ⟨rfl, rfl⟩ | ⟨rfl, rfl⟩ | ⟨rfl, rfl⟩
  ·cases hb : accW f 3
   ·simp only [M3.F, V3.F, M3.L, V3.L, G3.L, evX, evY, evZ, forall_const, implies_true, initE, stepF, D.clean, mvF, moF, tkF, shF, ariF, ciF, catF, scF, ebF, eqF, eqOk, eqPr, enF, notF, ngF, cvF, csF, csbF, lenF, lenSF, ixF, iaF, PX.slot, iaAF, faF, ldF, D.mem, stF, bxF, mkSF, boundF, fldF, ixAF, mmF2, D.plain, D.isPure, optAll, D.dull, callVF, splice, D.cells, D.one, sets, resT, D.flat, D.flat0, D.simple, Nat.reduceBNe, Nat.reduceLT, reduceIte, Nat.reduceEqDiff, Nat.reduceAdd, Nat.reduceMul, Nat.reduceSub, Nat.reduceLeDiff, Int.reduceToNat, Int.reduceLT, Int.reduceLE, Int.reduceEq, Int.reduceNeg, Int.reduceSub, Int.reduceAdd, Int.reduceMul, stG_own]
    repeat (refine ⟨by decide, ?_⟩)
    refine callF_of wz ?_
    (refine ev ?_; try exact ⟨⟩)
    repeat (refine ⟨by decide, ?_⟩)
    exact ⟨_, _, .inr (.inl ⟨rfl, rfl⟩), by rw [s3, hb]; simp [M3.F, V3.F, M3.L, V3.L, G3.L]⟩
   ·simp only [M3.F, V3.F, M3.L, V3.L, G3.L, evX, evY, evZ, forall_const, implies_true, initE, stepF, D.clean, mvF, moF, tkF, shF, ariF, ciF, catF, scF, ebF, eqF, eqOk, eqPr, enF, notF, ngF, cvF, csF, csbF, lenF, lenSF, ixF, iaF, PX.slot, iaAF, faF, ldF, D.mem, stF, bxF, mkSF, boundF, fldF, ixAF, mmF2, D.plain, D.isPure, optAll, D.dull, callVF, splice, D.cells, D.one, sets, resT, D.flat, D.flat0, D.simple, Nat.reduceBNe, Nat.reduceLT, reduceIte, Nat.reduceEqDiff, Nat.reduceAdd, Nat.reduceMul, Nat.reduceSub, Nat.reduceLeDiff, Int.reduceToNat, Int.reduceLT, Int.reduceLE, Int.reduceEq, Int.reduceNeg, Int.reduceSub, Int.reduceAdd, Int.reduceMul, stG_own]
    repeat (refine ⟨by decide, ?_⟩)
    refine callF_of wz ?_
    (refine ev ?_; try exact ⟨⟩)
    repeat (refine ⟨by decide, ?_⟩)
    refine callF_of d3 ?_
    (refine ev ?_; try exact ⟨⟩)
    repeat (refine ⟨by decide, ?_⟩)
    exact ⟨_, _, .inr (.inl ⟨rfl, rfl⟩), by rw [s3, hb]; simp [M3.F, V3.F, M3.L, V3.L, G3.L]⟩
  ·cases hb : accW f 4
   ·simp only [M3.F, V3.F, M3.L, V3.L, G3.L, evX, evY, evZ, forall_const, implies_true, initE, stepF, D.clean, mvF, moF, tkF, shF, ariF, ciF, catF, scF, ebF, eqF, eqOk, eqPr, enF, notF, ngF, cvF, csF, csbF, lenF, lenSF, ixF, iaF, PX.slot, iaAF, faF, ldF, D.mem, stF, bxF, mkSF, boundF, fldF, ixAF, mmF2, D.plain, D.isPure, optAll, D.dull, callVF, splice, D.cells, D.one, sets, resT, D.flat, D.flat0, D.simple, Nat.reduceBNe, Nat.reduceLT, reduceIte, Nat.reduceEqDiff, Nat.reduceAdd, Nat.reduceMul, Nat.reduceSub, Nat.reduceLeDiff, Int.reduceToNat, Int.reduceLT, Int.reduceLE, Int.reduceEq, Int.reduceNeg, Int.reduceSub, Int.reduceAdd, Int.reduceMul, stG_own]
    repeat (refine ⟨by decide, ?_⟩)
    refine callF_of wz ?_
    (refine ev ?_; try exact ⟨⟩)
    repeat (refine ⟨by decide, ?_⟩)
    refine callF_of wo ?_
    (refine ev ?_; try exact ⟨⟩)
    repeat (refine ⟨by decide, ?_⟩)
    exact ⟨_, _, .inr (.inr (.inl ⟨rfl, rfl⟩)), by rw [s4, hb]; simp [M3.F, V3.F, M3.L, V3.L, G3.L]⟩
   ·simp only [M3.F, V3.F, M3.L, V3.L, G3.L, evX, evY, evZ, forall_const, implies_true, initE, stepF, D.clean, mvF, moF, tkF, shF, ariF, ciF, catF, scF, ebF, eqF, eqOk, eqPr, enF, notF, ngF, cvF, csF, csbF, lenF, lenSF, ixF, iaF, PX.slot, iaAF, faF, ldF, D.mem, stF, bxF, mkSF, boundF, fldF, ixAF, mmF2, D.plain, D.isPure, optAll, D.dull, callVF, splice, D.cells, D.one, sets, resT, D.flat, D.flat0, D.simple, Nat.reduceBNe, Nat.reduceLT, reduceIte, Nat.reduceEqDiff, Nat.reduceAdd, Nat.reduceMul, Nat.reduceSub, Nat.reduceLeDiff, Int.reduceToNat, Int.reduceLT, Int.reduceLE, Int.reduceEq, Int.reduceNeg, Int.reduceSub, Int.reduceAdd, Int.reduceMul, stG_own]
    repeat (refine ⟨by decide, ?_⟩)
    refine callF_of wz ?_
    (refine ev ?_; try exact ⟨⟩)
    repeat (refine ⟨by decide, ?_⟩)
    refine callF_of wo ?_
    (refine ev ?_; try exact ⟨⟩)
    repeat (refine ⟨by decide, ?_⟩)
    refine callF_of d4 ?_
    (refine ev ?_; try exact ⟨⟩)
    repeat (refine ⟨by decide, ?_⟩)
    exact ⟨_, _, .inr (.inr (.inl ⟨rfl, rfl⟩)), by rw [s4, hb]; simp [M3.F, V3.F, M3.L, V3.L, G3.L]⟩
  ·cases hb : accW f 5
   ·simp only [M3.F, V3.F, M3.L, V3.L, G3.L, evX, evY, evZ, forall_const, implies_true, initE, stepF, D.clean, mvF, moF, tkF, shF, ariF, ciF, catF, scF, ebF, eqF, eqOk, eqPr, enF, notF, ngF, cvF, csF, csbF, lenF, lenSF, ixF, iaF, PX.slot, iaAF, faF, ldF, D.mem, stF, bxF, mkSF, boundF, fldF, ixAF, mmF2, D.plain, D.isPure, optAll, D.dull, callVF, splice, D.cells, D.one, sets, resT, D.flat, D.flat0, D.simple, Nat.reduceBNe, Nat.reduceLT, reduceIte, Nat.reduceEqDiff, Nat.reduceAdd, Nat.reduceMul, Nat.reduceSub, Nat.reduceLeDiff, Int.reduceToNat, Int.reduceLT, Int.reduceLE, Int.reduceEq, Int.reduceNeg, Int.reduceSub, Int.reduceAdd, Int.reduceMul, stG_own]
    repeat (refine ⟨by decide, ?_⟩)
    refine callF_of wz ?_
    (refine ev ?_; try exact ⟨⟩)
    repeat (refine ⟨by decide, ?_⟩)
    exact ⟨_, _, .inr (.inr (.inr (⟨rfl, rfl⟩))), by rw [s5, hb]; simp [M3.F, V3.F, M3.L, V3.L, G3.L]⟩
   ·simp only [M3.F, V3.F, M3.L, V3.L, G3.L, evX, evY, evZ, forall_const, implies_true, initE, stepF, D.clean, mvF, moF, tkF, shF, ariF, ciF, catF, scF, ebF, eqF, eqOk, eqPr, enF, notF, ngF, cvF, csF, csbF, lenF, lenSF, ixF, iaF, PX.slot, iaAF, faF, ldF, D.mem, stF, bxF, mkSF, boundF, fldF, ixAF, mmF2, D.plain, D.isPure, optAll, D.dull, callVF, splice, D.cells, D.one, sets, resT, D.flat, D.flat0, D.simple, Nat.reduceBNe, Nat.reduceLT, reduceIte, Nat.reduceEqDiff, Nat.reduceAdd, Nat.reduceMul, Nat.reduceSub, Nat.reduceLeDiff, Int.reduceToNat, Int.reduceLT, Int.reduceLE, Int.reduceEq, Int.reduceNeg, Int.reduceSub, Int.reduceAdd, Int.reduceMul, stG_own]
    repeat (refine ⟨by decide, ?_⟩)
    refine callF_of wz ?_
    (refine ev ?_; try exact ⟨⟩)
    repeat (refine ⟨by decide, ?_⟩)
    refine callF_of d5 ?_
    (refine ev ?_; try exact ⟨⟩)
    repeat (refine ⟨by decide, ?_⟩)
    exact ⟨_, _, .inr (.inr (.inr (⟨rfl, rfl⟩))), by rw [s5, hb]; simp [M3.F, V3.F, M3.L, V3.L, G3.L]⟩
  ·simp only [M3.F, V3.F, M3.L, V3.L, G3.L, evX, evY, evZ, forall_const, implies_true, initE, stepF, D.clean, mvF, moF, tkF, shF, ariF, ciF, catF, scF, ebF, eqF, eqOk, eqPr, enF, notF, ngF, cvF, csF, csbF, lenF, lenSF, ixF, iaF, PX.slot, iaAF, faF, ldF, D.mem, stF, bxF, mkSF, boundF, fldF, ixAF, mmF2, D.plain, D.isPure, optAll, D.dull, callVF, splice, D.cells, D.one, sets, resT, D.flat, D.flat0, D.simple, Nat.reduceBNe, Nat.reduceLT, reduceIte, Nat.reduceEqDiff, Nat.reduceAdd, Nat.reduceMul, Nat.reduceSub, Nat.reduceLeDiff, Int.reduceToNat, Int.reduceLT, Int.reduceLE, Int.reduceEq, Int.reduceNeg, Int.reduceSub, Int.reduceAdd, Int.reduceMul, stG_own]
   repeat (refine ⟨by decide, ?_⟩)
   exact ⟨_, _, .inr (.inr (.inl ⟨rfl, rfl⟩)), by simp [M3.F, V3.F, M3.L, V3.L, G3.L]⟩
 ·simp only [M3.F, V3.F, M3.L, V3.L, G3.L, evX, evY, evZ, forall_const, implies_true, initE, stepF, D.clean, mvF, moF, tkF, shF, ariF, ciF, catF, scF, ebF, eqF, eqOk, eqPr, enF, notF, ngF, cvF, csF, csbF, lenF, lenSF, ixF, iaF, PX.slot, iaAF, faF, ldF, D.mem, stF, bxF, mkSF, boundF, fldF, ixAF, mmF2, D.plain, D.isPure, optAll, D.dull, callVF, splice, D.cells, D.one, sets, resT, D.flat, D.flat0, D.simple, Nat.reduceBNe, Nat.reduceLT, reduceIte, Nat.reduceEqDiff, Nat.reduceAdd, Nat.reduceMul, Nat.reduceSub, Nat.reduceLeDiff, Int.reduceToNat, Int.reduceLT, Int.reduceLE, Int.reduceEq, Int.reduceNeg, Int.reduceSub, Int.reduceAdd, Int.reduceMul, stG_own]
  repeat (refine ⟨by decide, ?_⟩)
  refine loopF_of (fun E => ∃ (v : Bool) (k : Int), ((k = 0 ∧ v = accW f 6) ∨ (k = 1 ∧ v = accW f 7) ∨ (k = 2 ∧ v = accW f 8) ∨ (k = 3 ∧ v = accW f 9)) ∧ E = [(5, .box true m.F), (6, .box true n.F), (7, .box true C.L), (8, .int .i64 0), (9, .str (rt zd)), (10, .int .i64 0), (11, .bool (accW f 9)), (12, .int .i64 0), (13, .bool v), (14, .int .i64 2), (15, .int .i64 k)])
   (fun E => match lk E 15 with | .int _ i => (3 - i).toNat | _ => 0) ⟨_, _, .inl ⟨rfl, rfl⟩, by simp [M3.F, V3.F, M3.L, V3.L, G3.L]⟩ ?_
  rintro _ ⟨v, k, hv, rfl⟩
  rcases hv with ⟨rfl, rfl⟩ | ⟨rfl, rfl⟩ | ⟨rfl, rfl⟩ | ⟨rfl, rfl⟩
  ·cases hb : accW f 6
   ·simp only [M3.F, V3.F, M3.L, V3.L, G3.L, evX, evY, evZ, forall_const, implies_true, initE, stepF, D.clean, mvF, moF, tkF, shF, ariF, ciF, catF, scF, ebF, eqF, eqOk, eqPr, enF, notF, ngF, cvF, csF, csbF, lenF, lenSF, ixF, iaF, PX.slot, iaAF, faF, ldF, D.mem, stF, bxF, mkSF, boundF, fldF, ixAF, mmF2, D.plain, D.isPure, optAll, D.dull, callVF, splice, D.cells, D.one, sets, resT, D.flat, D.flat0, D.simple, Nat.reduceBNe, Nat.reduceLT, reduceIte, Nat.reduceEqDiff, Nat.reduceAdd, Nat.reduceMul, Nat.reduceSub, Nat.reduceLeDiff, Int.reduceToNat, Int.reduceLT, Int.reduceLE, Int.reduceEq, Int.reduceNeg, Int.reduceSub, Int.reduceAdd, Int.reduceMul, stG_own]
    repeat (refine ⟨by decide, ?_⟩)
    refine callF_of wz ?_
    (refine ev ?_; try exact ⟨⟩)
    repeat (refine ⟨by decide, ?_⟩)
    exact ⟨_, _, .inr (.inl ⟨rfl, rfl⟩), by rw [s6, hb]; simp [M3.F, V3.F, M3.L, V3.L, G3.L]⟩
   ·simp only [M3.F, V3.F, M3.L, V3.L, G3.L, evX, evY, evZ, forall_const, implies_true, initE, stepF, D.clean, mvF, moF, tkF, shF, ariF, ciF, catF, scF, ebF, eqF, eqOk, eqPr, enF, notF, ngF, cvF, csF, csbF, lenF, lenSF, ixF, iaF, PX.slot, iaAF, faF, ldF, D.mem, stF, bxF, mkSF, boundF, fldF, ixAF, mmF2, D.plain, D.isPure, optAll, D.dull, callVF, splice, D.cells, D.one, sets, resT, D.flat, D.flat0, D.simple, Nat.reduceBNe, Nat.reduceLT, reduceIte, Nat.reduceEqDiff, Nat.reduceAdd, Nat.reduceMul, Nat.reduceSub, Nat.reduceLeDiff, Int.reduceToNat, Int.reduceLT, Int.reduceLE, Int.reduceEq, Int.reduceNeg, Int.reduceSub, Int.reduceAdd, Int.reduceMul, stG_own]
    repeat (refine ⟨by decide, ?_⟩)
    refine callF_of wz ?_
    (refine ev ?_; try exact ⟨⟩)
    repeat (refine ⟨by decide, ?_⟩)
    refine callF_of d6 ?_
    (refine ev ?_; try exact ⟨⟩)
    repeat (refine ⟨by decide, ?_⟩)
    exact ⟨_, _, .inr (.inl ⟨rfl, rfl⟩), by rw [s6, hb]; simp [M3.F, V3.F, M3.L, V3.L, G3.L]⟩
  ·cases hb : accW f 7
   ·simp only [M3.F, V3.F, M3.L, V3.L, G3.L, evX, evY, evZ, forall_const, implies_true, initE, stepF, D.clean, mvF, moF, tkF, shF, ariF, ciF, catF, scF, ebF, eqF, eqOk, eqPr, enF, notF, ngF, cvF, csF, csbF, lenF, lenSF, ixF, iaF, PX.slot, iaAF, faF, ldF, D.mem, stF, bxF, mkSF, boundF, fldF, ixAF, mmF2, D.plain, D.isPure, optAll, D.dull, callVF, splice, D.cells, D.one, sets, resT, D.flat, D.flat0, D.simple, Nat.reduceBNe, Nat.reduceLT, reduceIte, Nat.reduceEqDiff, Nat.reduceAdd, Nat.reduceMul, Nat.reduceSub, Nat.reduceLeDiff, Int.reduceToNat, Int.reduceLT, Int.reduceLE, Int.reduceEq, Int.reduceNeg, Int.reduceSub, Int.reduceAdd, Int.reduceMul, stG_own]
    repeat (refine ⟨by decide, ?_⟩)
    refine callF_of wz ?_
    (refine ev ?_; try exact ⟨⟩)
    repeat (refine ⟨by decide, ?_⟩)
    exact ⟨_, _, .inr (.inr (.inl ⟨rfl, rfl⟩)), by rw [s7, hb]; simp [M3.F, V3.F, M3.L, V3.L, G3.L]⟩
   ·simp only [M3.F, V3.F, M3.L, V3.L, G3.L, evX, evY, evZ, forall_const, implies_true, initE, stepF, D.clean, mvF, moF, tkF, shF, ariF, ciF, catF, scF, ebF, eqF, eqOk, eqPr, enF, notF, ngF, cvF, csF, csbF, lenF, lenSF, ixF, iaF, PX.slot, iaAF, faF, ldF, D.mem, stF, bxF, mkSF, boundF, fldF, ixAF, mmF2, D.plain, D.isPure, optAll, D.dull, callVF, splice, D.cells, D.one, sets, resT, D.flat, D.flat0, D.simple, Nat.reduceBNe, Nat.reduceLT, reduceIte, Nat.reduceEqDiff, Nat.reduceAdd, Nat.reduceMul, Nat.reduceSub, Nat.reduceLeDiff, Int.reduceToNat, Int.reduceLT, Int.reduceLE, Int.reduceEq, Int.reduceNeg, Int.reduceSub, Int.reduceAdd, Int.reduceMul, stG_own]
    repeat (refine ⟨by decide, ?_⟩)
    refine callF_of wz ?_
    (refine ev ?_; try exact ⟨⟩)
    repeat (refine ⟨by decide, ?_⟩)
    refine callF_of d7 ?_
    (refine ev ?_; try exact ⟨⟩)
    repeat (refine ⟨by decide, ?_⟩)
    exact ⟨_, _, .inr (.inr (.inl ⟨rfl, rfl⟩)), by rw [s7, hb]; simp [M3.F, V3.F, M3.L, V3.L, G3.L]⟩
  ·cases hb : accW f 8
   ·simp only [M3.F, V3.F, M3.L, V3.L, G3.L, evX, evY, evZ, forall_const, implies_true, initE, stepF, D.clean, mvF, moF, tkF, shF, ariF, ciF, catF, scF, ebF, eqF, eqOk, eqPr, enF, notF, ngF, cvF, csF, csbF, lenF, lenSF, ixF, iaF, PX.slot, iaAF, faF, ldF, D.mem, stF, bxF, mkSF, boundF, fldF, ixAF, mmF2, D.plain, D.isPure, optAll, D.dull, callVF, splice, D.cells, D.one, sets, resT, D.flat, D.flat0, D.simple, Nat.reduceBNe, Nat.reduceLT, reduceIte, Nat.reduceEqDiff, Nat.reduceAdd, Nat.reduceMul, Nat.reduceSub, Nat.reduceLeDiff, Int.reduceToNat, Int.reduceLT, Int.reduceLE, Int.reduceEq, Int.reduceNeg, Int.reduceSub, Int.reduceAdd, Int.reduceMul, stG_own]
    repeat (refine ⟨by decide, ?_⟩)
    refine callF_of wz ?_
    (refine ev ?_; try exact ⟨⟩)
    repeat (refine ⟨by decide, ?_⟩)
    refine callF_of wo ?_
    (refine ev ?_; try exact ⟨⟩)
    repeat (refine ⟨by decide, ?_⟩)
    exact ⟨_, _, .inr (.inr (.inr (⟨rfl, rfl⟩))), by rw [s8, hb]; simp [M3.F, V3.F, M3.L, V3.L, G3.L]⟩
   ·simp only [M3.F, V3.F, M3.L, V3.L, G3.L, evX, evY, evZ, forall_const, implies_true, initE, stepF, D.clean, mvF, moF, tkF, shF, ariF, ciF, catF, scF, ebF, eqF, eqOk, eqPr, enF, notF, ngF, cvF, csF, csbF, lenF, lenSF, ixF, iaF, PX.slot, iaAF, faF, ldF, D.mem, stF, bxF, mkSF, boundF, fldF, ixAF, mmF2, D.plain, D.isPure, optAll, D.dull, callVF, splice, D.cells, D.one, sets, resT, D.flat, D.flat0, D.simple, Nat.reduceBNe, Nat.reduceLT, reduceIte, Nat.reduceEqDiff, Nat.reduceAdd, Nat.reduceMul, Nat.reduceSub, Nat.reduceLeDiff, Int.reduceToNat, Int.reduceLT, Int.reduceLE, Int.reduceEq, Int.reduceNeg, Int.reduceSub, Int.reduceAdd, Int.reduceMul, stG_own]
    repeat (refine ⟨by decide, ?_⟩)
    refine callF_of wz ?_
    (refine ev ?_; try exact ⟨⟩)
    repeat (refine ⟨by decide, ?_⟩)
    refine callF_of wo ?_
    (refine ev ?_; try exact ⟨⟩)
    repeat (refine ⟨by decide, ?_⟩)
    refine callF_of d8 ?_
    (refine ev ?_; try exact ⟨⟩)
    repeat (refine ⟨by decide, ?_⟩)
    exact ⟨_, _, .inr (.inr (.inr (⟨rfl, rfl⟩))), by rw [s8, hb]; simp [M3.F, V3.F, M3.L, V3.L, G3.L]⟩
  ·simp only [M3.F, V3.F, M3.L, V3.L, G3.L, evX, evY, evZ, forall_const, implies_true, initE, stepF, D.clean, mvF, moF, tkF, shF, ariF, ciF, catF, scF, ebF, eqF, eqOk, eqPr, enF, notF, ngF, cvF, csF, csbF, lenF, lenSF, ixF, iaF, PX.slot, iaAF, faF, ldF, D.mem, stF, bxF, mkSF, boundF, fldF, ixAF, mmF2, D.plain, D.isPure, optAll, D.dull, callVF, splice, D.cells, D.one, sets, resT, D.flat, D.flat0, D.simple, Nat.reduceBNe, Nat.reduceLT, reduceIte, Nat.reduceEqDiff, Nat.reduceAdd, Nat.reduceMul, Nat.reduceSub, Nat.reduceLeDiff, Int.reduceToNat, Int.reduceLT, Int.reduceLE, Int.reduceEq, Int.reduceNeg, Int.reduceSub, Int.reduceAdd, Int.reduceMul, stG_own]
   repeat (refine ⟨by decide, ?_⟩)
   exact ⟨_, _, .inr (.inr (.inr (⟨rfl, rfl⟩))), by simp [M3.F, V3.F, M3.L, V3.L, G3.L]⟩
 ·simp only [M3.F, V3.F, M3.L, V3.L, G3.L, evX, evY, evZ, forall_const, implies_true, initE, stepF, D.clean, mvF, moF, tkF, shF, ariF, ciF, catF, scF, ebF, eqF, eqOk, eqPr, enF, notF, ngF, cvF, csF, csbF, lenF, lenSF, ixF, iaF, PX.slot, iaAF, faF, ldF, D.mem, stF, bxF, mkSF, boundF, fldF, ixAF, mmF2, D.plain, D.isPure, optAll, D.dull, callVF, splice, D.cells, D.one, sets, resT, D.flat, D.flat0, D.simple, Nat.reduceBNe, Nat.reduceLT, reduceIte, Nat.reduceEqDiff, Nat.reduceAdd, Nat.reduceMul, Nat.reduceSub, Nat.reduceLeDiff, Int.reduceToNat, Int.reduceLT, Int.reduceLE, Int.reduceEq, Int.reduceNeg, Int.reduceSub, Int.reduceAdd, Int.reduceMul, stG_own]
  repeat (refine ⟨by decide, ?_⟩)
  refine callF_of wc ?_
  (refine ev ?_; try exact ⟨⟩)
  repeat (refine ⟨by decide, ?_⟩)
  refine callF_of wa ?_
  (refine ev ?_; try exact ⟨⟩)
  repeat (refine ⟨by decide, ?_⟩)
  refine callF_of wd ?_
  (refine ev ?_; try exact ⟨⟩)
  repeat (refine ⟨by decide, ?_⟩)
  refine callF_of td ?_
  (refine ev ?_; try exact ⟨⟩)
  simp only [beq_self_eq_true]
end Go.Proofs
