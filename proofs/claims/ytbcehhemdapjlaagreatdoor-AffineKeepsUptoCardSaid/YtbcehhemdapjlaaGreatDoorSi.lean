/-
 AFFINE: which numbers are right: vector.Check, affine.Check, first. Own work.
-/
import Derived.Test.YtbcehhemdapjlaaGreatDoorPj
import Derived.Test.YtbcehhemdapjlaaGreatDoorSh
import Derived.Test.YtbcehhemdapjlaaGreatDoorSf
set_option linter.unusedVariables false
set_option linter.unusedSimpArgs false
namespace Go.Proofs
open Go Go.Pi Go.RowKit Go.Shelf Go.Ar Go.Mx

/-- three texts -/
structure T3 where
 x : List UInt8
 y : List UInt8
 z : List UInt8
namespace T3
def L (v : T3) : List D := [.str v.x, .str v.y, .str v.z]
def ok (v : T3) : Prop := okR v.x ∧ okR v.y ∧ okR v.z
def sz (v : T3) (k : Nat) : Prop := v.x.length ≤ k ∧ v.y.length ≤ k ∧ v.z.length ≤ k
end T3
def tsD (l : List T3) : List D := l.flatMap T3.L
theorem tsD_len : ∀ l : List T3, (tsD l).length = 3 * l.length
 | [] => rfl
 | v :: l => by
   have := tsD_len l
   simp only [tsD, List.flatMap_cons, List.length_append, List.length_cons] at this ⊢
   rw [this]; simp [T3.L]; omega
theorem tsD_drop : ∀ {l : List T3} {k : Nat} {v : T3}, l[k]? = some v → (tsD l).drop (k * 3) = v.L ++ (tsD l).drop (k * 3 + 3)
 | [], k, v, h => by simp at h
 | a :: l, 0, v, h => by
   simp at h; subst h
   simp [tsD, T3.L]
 | a :: l, k + 1, v, h => by
   have ih := tsD_drop (l := l) (k := k) (v := v) (by simpa using h)
   have e : ∀ n, (tsD (a :: l)).drop (n + 3) = (tsD l).drop n := fun n => by simp [tsD, T3.L, List.drop_succ_cons]
   rw [show (k + 1) * 3 = k * 3 + 3 by omega, e, ih, e]
theorem ldC_ts {l : List T3} {k t : Nat} {v : T3} {N : EP} {E : Env} (h : l[k]? = some v) : ldC true 3 (List.take 3 (List.drop (k * 3) (tsD l))) t N E = N (st1 E t (.agg v.L)) := by
 rw [tsD_drop h]
 simp [ldC, ofCells, T3.L]
theorem Tryz.tnumbers (v : T3) (h : v.sz 1000000) : Con Tryz.prog Tryz.L 146 [.sl 3 v.L] (.int .i64 (chk v.ok)) := by
 obtain ⟨hx, hy, hz⟩ := h
 have c1 := Tryz.rcheck v.x hx; have c2 := Tryz.rcheck v.y hy; have c3 := Tryz.rcheck v.z hz
 refine rule146 Tryz.hL rfl rfl rfl ?_
 simp only [T3.L, pc146, rs146, oU, oC, evX, evY, evZ, forall_const, implies_true, initE, stepF, D.clean, mvF, moF, tkF, shF, ariF, ciF, catF, scF, ebF, eqF, eqOk, eqPr, enF, notF, ngF, cvF, csF, csbF, lenF, lenSF, ixF, iaF, PX.slot, iaAF, faF, ldF, D.mem, stF, bxF, mkSF, boundF, fldF, ixAF, mmF2, D.plain, D.isPure, optAll, D.dull, callVF, splice, D.cells, D.one, sets, resT, D.flat, D.flat0, D.simple, Nat.reduceBNe, Nat.reduceLT, reduceIte, Nat.reduceEqDiff, Nat.reduceAdd, Nat.reduceMul, Nat.reduceSub, Nat.reduceLeDiff, Int.reduceToNat, Int.reduceLT, Int.reduceLE, Int.reduceEq, Int.reduceNeg, Int.reduceSub, Int.reduceAdd, Int.reduceMul, stG_own]
 refine loopF_of (fun E => ∃ i : Int, ((i = 0) ∨ (i = 1 ∧ okR v.x) ∨ (i = 2 ∧ okR v.x ∧ okR v.y) ∨ (i = 3 ∧ v.ok)) ∧ E = [(6, .sl 3 [.str v.x, .str v.y, .str v.z]), (7, .int .i64 3), (8, .int .i64 i)])
  (fun E => match lk E 8 with | .int _ i => (3 - i).toNat | _ => 0) ⟨_, .inl rfl, by simp⟩ ?_
 rintro _ ⟨i, hp, rfl⟩
 rcases hp with rfl | ⟨rfl, h1⟩ | ⟨rfl, h1, h2⟩ | ⟨rfl, h1⟩
 ·(refine ev ?_; try exact ⟨⟩)
  repeat (refine ⟨by decide, ?_⟩)
  refine callF_of c1 ?_
  (refine ev ?_; try exact ⟨⟩)
  refine ⟨fun h => ?_, fun h => ⟨_, .inr (.inl ⟨rfl, chk_0.1 (Classical.not_not.1 h)⟩), by simp⟩⟩
  have h : ¬okR v.x := fun h2 => h (chk_0.2 h2)
  rw [chk_f h, chk_f fun h2 : v.ok => h h2.1]
 ·(refine ev ?_; try exact ⟨⟩)
  repeat (refine ⟨by decide, ?_⟩)
  refine callF_of c2 ?_
  (refine ev ?_; try exact ⟨⟩)
  refine ⟨fun h => ?_, fun h => ⟨_, .inr (.inr (.inl ⟨rfl, h1, chk_0.1 (Classical.not_not.1 h)⟩)), by simp⟩⟩
  have h : ¬okR v.y := fun h2 => h (chk_0.2 h2)
  rw [chk_f h, chk_f fun h2 : v.ok => h h2.2.1]
 ·(refine ev ?_; try exact ⟨⟩)
  repeat (refine ⟨by decide, ?_⟩)
  refine callF_of c3 ?_
  (refine ev ?_; try exact ⟨⟩)
  refine ⟨fun h => ?_, fun h => ⟨_, .inr (.inr (.inr ⟨rfl, h1, h2, chk_0.1 (Classical.not_not.1 h)⟩)), by simp⟩⟩
  have h : ¬okR v.z := fun h2 => h (chk_0.2 h2)
  rw [chk_f h, chk_f fun h2 : v.ok => h h2.2.2]
 ·(refine ev ?_; try exact ⟨⟩)
  rw [chk_t h1]
theorem Tryz.tcheck (v : T3) (h : v.sz 1000000) : Con Tryz.prog Tryz.L 109 [.agg v.L] (.int .i64 (chk v.ok)) := by
 have hn := Tryz.tnumbers v h
 refine rule109 Tryz.hL rfl rfl rfl ?_
 simp only [T3.L, pc109, rs109, oU, oC, evX, evY, evZ, forall_const, implies_true, initE, stepF, D.clean, mvF, moF, tkF, shF, ariF, ciF, catF, scF, ebF, eqF, eqOk, eqPr, enF, notF, ngF, cvF, csF, csbF, lenF, lenSF, ixF, iaF, PX.slot, iaAF, faF, ldF, D.mem, stF, bxF, mkSF, boundF, fldF, ixAF, mmF2, D.plain, D.isPure, optAll, D.dull, callVF, splice, D.cells, D.one, sets, resT, D.flat, D.flat0, D.simple, Nat.reduceBNe, Nat.reduceLT, reduceIte, Nat.reduceEqDiff, Nat.reduceAdd, Nat.reduceMul, Nat.reduceSub, Nat.reduceLeDiff, Int.reduceToNat, Int.reduceLT, Int.reduceLE, Int.reduceEq, Int.reduceNeg, Int.reduceSub, Int.reduceAdd, Int.reduceMul, stG_own] at hn ⊢
 refine callF_of hn ?_
 (refine ev ?_; try exact ⟨⟩)
/-- the texts of a plane -/
def T3.okP (v : T3) (o : List UInt8) : Prop := v.ok ∧ okR o
theorem Tryz.tnumbers4 (v : T3) (o : List UInt8) (h : v.sz 1000000) (ho : o.length ≤ 1000000) : Con Tryz.prog Tryz.L 146 [.sl 4 [.str v.x, .str v.y, .str v.z, .str o]] (.int .i64 (chk (v.okP o))) := by
 obtain ⟨hx, hy, hz⟩ := h
 have c1 := Tryz.rcheck v.x hx; have c2 := Tryz.rcheck v.y hy; have c3 := Tryz.rcheck v.z hz; have c4 := Tryz.rcheck o ho
 refine rule146 Tryz.hL rfl rfl rfl ?_
 simp only [T3.L, pc146, rs146, oU, oC, evX, evY, evZ, forall_const, implies_true, initE, stepF, D.clean, mvF, moF, tkF, shF, ariF, ciF, catF, scF, ebF, eqF, eqOk, eqPr, enF, notF, ngF, cvF, csF, csbF, lenF, lenSF, ixF, iaF, PX.slot, iaAF, faF, ldF, D.mem, stF, bxF, mkSF, boundF, fldF, ixAF, mmF2, D.plain, D.isPure, optAll, D.dull, callVF, splice, D.cells, D.one, sets, resT, D.flat, D.flat0, D.simple, Nat.reduceBNe, Nat.reduceLT, reduceIte, Nat.reduceEqDiff, Nat.reduceAdd, Nat.reduceMul, Nat.reduceSub, Nat.reduceLeDiff, Int.reduceToNat, Int.reduceLT, Int.reduceLE, Int.reduceEq, Int.reduceNeg, Int.reduceSub, Int.reduceAdd, Int.reduceMul, stG_own]
 refine loopF_of (fun E => ∃ i : Int, ((i = 0) ∨ (i = 1 ∧ okR v.x) ∨ (i = 2 ∧ okR v.x ∧ okR v.y) ∨ (i = 3 ∧ v.ok) ∨ (i = 4 ∧ v.okP o)) ∧ E = [(6, .sl 4 [.str v.x, .str v.y, .str v.z, .str o]), (7, .int .i64 4), (8, .int .i64 i)])
  (fun E => match lk E 8 with | .int _ i => (4 - i).toNat | _ => 0) ⟨_, .inl rfl, by simp⟩ ?_
 rintro _ ⟨i, hp, rfl⟩
 rcases hp with rfl | ⟨rfl, h1⟩ | ⟨rfl, h1, h2⟩ | ⟨rfl, h1⟩ | ⟨rfl, h1⟩
 ·(refine ev ?_; try exact ⟨⟩)
  repeat (refine ⟨by decide, ?_⟩)
  refine callF_of c1 ?_
  (refine ev ?_; try exact ⟨⟩)
  refine ⟨fun h => ?_, fun h => ⟨_, .inr (.inl ⟨rfl, chk_0.1 (Classical.not_not.1 h)⟩), by simp⟩⟩
  have h : ¬okR v.x := fun h2 => h (chk_0.2 h2)
  rw [chk_f h, chk_f fun h2 : v.okP o => h h2.1.1]
 ·(refine ev ?_; try exact ⟨⟩)
  repeat (refine ⟨by decide, ?_⟩)
  refine callF_of c2 ?_
  (refine ev ?_; try exact ⟨⟩)
  refine ⟨fun h => ?_, fun h => ⟨_, .inr (.inr (.inl ⟨rfl, h1, chk_0.1 (Classical.not_not.1 h)⟩)), by simp⟩⟩
  have h : ¬okR v.y := fun h2 => h (chk_0.2 h2)
  rw [chk_f h, chk_f fun h2 : v.okP o => h h2.1.2.1]
 ·(refine ev ?_; try exact ⟨⟩)
  repeat (refine ⟨by decide, ?_⟩)
  refine callF_of c3 ?_
  (refine ev ?_; try exact ⟨⟩)
  refine ⟨fun h => ?_, fun h => ⟨_, .inr (.inr (.inr (.inl ⟨rfl, h1, h2, chk_0.1 (Classical.not_not.1 h)⟩))), by simp⟩⟩
  have h : ¬okR v.z := fun h2 => h (chk_0.2 h2)
  rw [chk_f h, chk_f fun h2 : v.okP o => h h2.1.2.2]
 ·(refine ev ?_; try exact ⟨⟩)
  repeat (refine ⟨by decide, ?_⟩)
  refine callF_of c4 ?_
  (refine ev ?_; try exact ⟨⟩)
  refine ⟨fun h => ?_, fun h => ⟨_, .inr (.inr (.inr (.inr ⟨rfl, h1, chk_0.1 (Classical.not_not.1 h)⟩))), by simp⟩⟩
  have h : ¬okR o := fun h2 => h (chk_0.2 h2)
  rw [chk_f h, chk_f fun h2 : v.okP o => h h2.2]
 ·(refine ev ?_; try exact ⟨⟩)
  rw [chk_t h1]
/-! lists of vectors -/
theorem Tryz.tfirstC (v : T3) (h : v.sz 1000000) : Con Tryz.prog Tryz.L 113 [.agg v.L] (.bool (dB (¬v.ok))) := by
 have hc := Tryz.tcheck v h
 refine rule113 Tryz.hL rfl rfl rfl ?_
 simp only [T3.L, pc113, rs113, oU, oC, evX, evY, evZ, forall_const, implies_true, initE, stepF, D.clean, mvF, moF, tkF, shF, ariF, ciF, catF, scF, ebF, eqF, eqOk, eqPr, enF, notF, ngF, cvF, csF, csbF, lenF, lenSF, ixF, iaF, PX.slot, iaAF, faF, ldF, D.mem, stF, bxF, mkSF, boundF, fldF, ixAF, mmF2, D.plain, D.isPure, optAll, D.dull, callVF, splice, D.cells, D.one, sets, resT, D.flat, D.flat0, D.simple, Nat.reduceBNe, Nat.reduceLT, reduceIte, Nat.reduceEqDiff, Nat.reduceAdd, Nat.reduceMul, Nat.reduceSub, Nat.reduceLeDiff, Int.reduceToNat, Int.reduceLT, Int.reduceLE, Int.reduceEq, Int.reduceNeg, Int.reduceSub, Int.reduceAdd, Int.reduceMul, stG_own] at hc ⊢
 refine callF_of hc ?_
 (refine ev ?_; try exact ⟨⟩)
 rw [show (¬chk v.ok = 0) = ¬v.ok from propext (not_congr chk_0)]
/-- the first place that is not right, from k on, or -1 -/
noncomputable def ixT : List T3 → Nat → Int
 | [], _ => -1
 | v :: l, k => @ite Int v.ok (Classical.propDecidable _) (ixT l (k + 1)) k
theorem ixT_cons (v : T3) (l : List T3) (k : Nat) : ixT (v :: l) k = @ite Int v.ok (Classical.propDecidable _) (ixT l (k + 1)) k := rfl
theorem ixT_all : ∀ {l : List T3} {k : Nat}, (0 ≤ ixT l k) ↔ ¬∀ v ∈ l, v.ok
 | [], k => by simp [ixT]
 | a :: l, k => by
   have ih := ixT_all (l := l) (k := k + 1)
   unfold ixT
   by_cases h : a.ok
   ·rw [if_pos h, ih]; simp [h]
   ·rw [if_neg h]
    exact ⟨fun _ h2 => h (h2 a (by simp)), fun _ => by omega⟩
theorem dropT {l : List T3} {k : Nat} {x : T3} (h : l[k]? = some x) : l.drop k = x :: l.drop (k + 1) := by
 obtain ⟨h1, rfl⟩ := List.getElem?_eq_some_iff.1 h
 exact List.drop_eq_getElem_cons h1
theorem Tryz.tindex (l : List T3) (hl : l.length ≤ 1000) (h : ∀ v ∈ l, v.sz 1000000) : Con Tryz.prog Tryz.L 147 [.sl l.length (tsD l), .clo 113 []] (.int .i64 (ixT l 0)) := by
 refine rule147 Tryz.hL rfl rfl rfl ?_
 (simp only [pc147, rs147, oU, oC]; refine ev ?_; try exact ⟨⟩)
 refine loopF_of (fun E => ∃ k : Nat, k ≤ l.length ∧ ixT l 0 = ixT (l.drop k) k ∧ E = [(0, .sl l.length (tsD l)), (1, .clo 113 []), (7, .int .i64 l.length), (8, .int .i64 k)])
  (fun E => match lk E 8 with | .int _ i => l.length - i.toNat | _ => 0) ⟨0, Nat.zero_le _, rfl, rfl⟩ ?_
 rintro _ ⟨k, hk, hi, rfl⟩
 (refine ev ?_; try exact ⟨⟩)
 refine ⟨fun h3 => ?_, fun h3 => ?_⟩
 ·have hkl : k < l.length := by omega
  have hv : l[k]? = some l[k] := List.getElem?_eq_getElem hkl
  have hm := List.getElem_mem hkl
  generalize l[k] = v at hv hm
  have ht := tsD_len l
  rw [dropT hv, ixT_cons] at hi
  refine ⟨⟨by omega, by omega, by omega⟩, ?_⟩
  rw [ldC_ts hv]
  simp only [T3.L, evX, evY, evZ, forall_const, implies_true, initE, stepF, D.clean, mvF, moF, tkF, shF, ariF, ciF, catF, scF, ebF, eqF, eqOk, eqPr, enF, notF, ngF, cvF, csF, csbF, lenF, lenSF, ixF, iaF, PX.slot, iaAF, faF, ldF, D.mem, stF, bxF, mkSF, boundF, fldF, ixAF, mmF2, D.plain, D.isPure, optAll, D.dull, callVF, splice, D.cells, D.one, sets, resT, D.flat, D.flat0, D.simple, Nat.reduceBNe, Nat.reduceLT, reduceIte, Nat.reduceEqDiff, Nat.reduceAdd, Nat.reduceMul, Nat.reduceSub, Nat.reduceLeDiff, Int.reduceToNat, Int.reduceLT, Int.reduceLE, Int.reduceEq, Int.reduceNeg, Int.reduceSub, Int.reduceAdd, Int.reduceMul, stG_own]
  refine callF_of (Tryz.tfirstC v (h v hm)) ?_
  (refine ev ?_; try exact ⟨⟩)
  refine ⟨fun h4 => ?_, fun h4 => ?_⟩
  ·rw [if_neg h4] at hi
   rw [hi]
  ·rw [if_pos (Classical.not_not.1 h4)] at hi
   exact ⟨by omega, ⟨k + 1, by omega, hi, by simp⟩, by omega⟩
 ·rw [List.drop_eq_nil_of_le (by omega)] at hi
  rw [hi]; rfl
theorem Tryz.tfirst (l : List T3) (hl : l.length ≤ 1000) (h : ∀ v ∈ l, v.sz 1000000) : Con Tryz.prog Tryz.L 74 [.sl l.length (tsD l)] (.int .i64 (chk (∀ v ∈ l, v.ok))) := by
 have h1 := Tryz.tindex l hl h
 have h2 : Con Tryz.prog Tryz.L 112 [.sl l.length (tsD l), .clo 113 []] (.bool (dB (0 ≤ ixT l 0))) := by
  refine rule112 Tryz.hL rfl rfl rfl ?_
  (simp only [pc112, rs112, oU, oC]; refine ev ?_; try exact ⟨⟩)
  refine callF_of h1 ?_
  (refine ev ?_; try exact ⟨⟩)
 refine rule74 Tryz.hL rfl rfl rfl ?_
 (simp only [pc74, rs74, oU, oC]; refine ev ?_; try exact ⟨⟩)
 refine callF_of h2 ?_
 (refine ev ?_; try exact ⟨⟩)
 refine ⟨fun h3 => by rw [chk_f (ixT_all.1 h3)], fun h3 => by rw [chk_t (Classical.not_not.1 fun h4 => h3 (ixT_all.2 h4))]⟩
/-- the texts of a map -/
structure TM where
 a : T3
 b : T3
 c : T3
 s : T3
namespace TM
def L (m : TM) : List D := [.str m.a.x, .str m.a.y, .str m.a.z, .str m.b.x, .str m.b.y, .str m.b.z, .str m.c.x, .str m.c.y, .str m.c.z, .str m.s.x, .str m.s.y, .str m.s.z]
def ok (m : TM) : Prop := m.a.ok ∧ m.b.ok ∧ m.c.ok ∧ m.s.ok
def sz (m : TM) (k : Nat) : Prop := m.a.sz k ∧ m.b.sz k ∧ m.c.sz k ∧ m.s.sz k
end TM
theorem all4 {p : T3 → Prop} {a b c d : T3} : (∀ v ∈ [a, b, c, d], p v) ↔ p a ∧ p b ∧ p c ∧ p d := by simp
theorem all2 {p : T3 → Prop} {a b : T3} : (∀ v ∈ [a, b], p v) ↔ p a ∧ p b := by simp
theorem all1 {p : T3 → Prop} {a : T3} : (∀ v ∈ [a], p v) ↔ p a := by simp
theorem Tryz.acheck (m : TM) (h : m.sz 1000000) : Con Tryz.prog Tryz.L 54 [.agg m.L] (.int .i64 (chk m.ok)) := by
 have hf := Tryz.tfirst [m.a, m.b, m.c, m.s] (by simp) (all4.2 h)
 rw [show (∀ v ∈ [m.a, m.b, m.c, m.s], v.ok) = m.ok from propext all4] at hf
 refine rule54 Tryz.hL rfl rfl rfl ?_
 simp only [TM.L, pc54, rs54, oU, oC, evX, evY, evZ, forall_const, implies_true, initE, stepF, D.clean, mvF, moF, tkF, shF, ariF, ciF, catF, scF, ebF, eqF, eqOk, eqPr, enF, notF, ngF, cvF, csF, csbF, lenF, lenSF, ixF, iaF, PX.slot, iaAF, faF, ldF, D.mem, stF, bxF, mkSF, boundF, fldF, ixAF, mmF2, D.plain, D.isPure, optAll, D.dull, callVF, splice, D.cells, D.one, sets, resT, D.flat, D.flat0, D.simple, Nat.reduceBNe, Nat.reduceLT, reduceIte, Nat.reduceEqDiff, Nat.reduceAdd, Nat.reduceMul, Nat.reduceSub, Nat.reduceLeDiff, Int.reduceToNat, Int.reduceLT, Int.reduceLE, Int.reduceEq, Int.reduceNeg, Int.reduceSub, Int.reduceAdd, Int.reduceMul, stG_own]
 repeat (refine ⟨by decide, ?_⟩)
 refine callF_of hf ?_
 (refine ev ?_; try exact ⟨⟩)
end Go.Proofs

/-
 AFFINE: the functions of the package affine for right numbers, printed by tools/aff3.py. Own work.
-/
namespace Go.Proofs
open Go Go.Pi Go.RowKit Go.Shelf Go.Ar Go.Mx

def M3.rd (k : Nat) (m : M3) : Prop := m.g.rd k ∧ m.s.rd k
theorem G3.rd_mono {k l : Nat} {g : G3} (h : g.rd k) (h' : k ≤ l) : g.rd l := ⟨V3.rd_mono h.1 h', V3.rd_mono h.2.1 h', V3.rd_mono h.2.2 h'⟩
theorem M3.rd_mono {k l : Nat} {m : M3} (h : m.rd k) (h' : k ≤ l) : m.rd l := ⟨G3.rd_mono h.1 h', V3.rd_mono h.2 h'⟩
def V3.t (v : V3) : T3 := ⟨rt v.x, rt v.y, rt v.z⟩
def M3.t (m : M3) : TM := ⟨m.g.a.t, m.g.b.t, m.g.c.t, m.s.t⟩
theorem V3.t_ok (v : V3) : v.t.ok ↔ v.rd 200 := by
 unfold T3.ok V3.rd V3.t
 rw [okR_rt, okR_rt, okR_rt]
theorem M3.t_ok (m : M3) : m.t.ok ↔ m.rd 200 := by
 unfold TM.ok M3.rd G3.rd M3.t
 rw [V3.t_ok, V3.t_ok, V3.t_ok, V3.t_ok]
 exact ⟨fun h => ⟨⟨h.1, h.2.1, h.2.2.1⟩, h.2.2.2⟩, fun h => ⟨h.1.1, h.1.2.1, h.1.2.2, h.2⟩⟩
theorem V3.t_sz {k : Nat} {v : V3} (h : v.rd k) (hk : k ≤ 1000) : v.t.sz 1000000 :=
 ⟨by have := rt_len v.x; have := h.1; show (rt v.x).length ≤ _; omega, by have := rt_len v.y; have := h.2.1; show (rt v.y).length ≤ _; omega, by have := rt_len v.z; have := h.2.2; show (rt v.z).length ≤ _; omega⟩
theorem M3.t_sz {k : Nat} {m : M3} (h : m.rd k) (hk : k ≤ 1000) : m.t.sz 1000000 := ⟨V3.t_sz h.1.1 hk, V3.t_sz h.1.2.1 hk, V3.t_sz h.1.2.2 hk, V3.t_sz h.2 hk⟩
theorem Tryz.avcheck (v : V3) (h : v.rd 200) : Con Tryz.prog Tryz.L 109 [.agg v.L] (.int .i64 0) := by
 have := Tryz.tcheck v.t (V3.t_sz h (by decide))
 rw [chk_t ((V3.t_ok v).2 h)] at this
 exact this
theorem Tryz.amcheck (m : M3) (h : m.rd 200) : Con Tryz.prog Tryz.L 54 [.agg m.L] (.int .i64 0) := by
 have := Tryz.acheck m.t (M3.t_sz h (by decide))
 rw [chk_t ((M3.t_ok m).2 h)] at this
 exact this
theorem rd_inv {k : Nat} {q : Rat} (h : rd q ≤ k) (h0 : q ≠ 0) : rd (1 / q) ≤ k + 1 := by
 obtain ⟨u, d, h1, h2, h3, h4⟩ := nbk h
 have hu : u ≠ 0 := fun e => by
  rw [e] at h4
  rcases Rat.mul_eq_zero.1 (h4.trans (by rfl : ((0 : Int) : Rat) = 0)) with h | h
  ·exact h0 h
  ·have : d = 0 := by exact_mod_cast h
   omega
 have hi := Rat.mul_inv_cancel _ h0
 have key : NB k k (1 / q) := by
  rcases Int.lt_or_le u 0 with hn | hp
  ·refine ⟨-(d : Int), u.natAbs, by omega, h3, by omega, ?_⟩
   have e3 : ((u.natAbs : Nat) : Rat) = -(u : Rat) := by
    rw [← Rat.intCast_neg, ← Rat.intCast_natCast]; congr 1; omega
   rw [e3, Rat.div_def, Rat.intCast_neg, Rat.intCast_natCast, ← h4]
   generalize q⁻¹ = z at *
   grind
  ·refine ⟨(d : Int), u.natAbs, by omega, h3, by omega, ?_⟩
   have e3 : ((u.natAbs : Nat) : Rat) = (u : Rat) := by
    rw [← Rat.intCast_natCast]; congr 1; omega
   rw [e3, Rat.div_def, Rat.intCast_natCast, ← h4]
   generalize q⁻¹ = z at *
   grind
 have := rd_nb key
 omega
theorem G3.rd_col {k : Nat} {g : G3} (h : g.rd k) (i : Nat) : (g.col i).rd k := ⟨V3.rd_at h.1 i, V3.rd_at h.2.1 i, V3.rd_at h.2.2 i⟩
theorem G3.rd_tr {k : Nat} {g : G3} (h : g.rd k) : g.tr.rd k := ⟨G3.rd_col h 0, G3.rd_col h 1, G3.rd_col h 2⟩
theorem G3.rd_app {k l : Nat} {g : G3} {v : V3} (h : g.rd k) (h' : v.rd l) : (g.app v).rd (3 * (k + l + 1) + 4) := ⟨V3.rd_dot h.1 h', V3.rd_dot h.2.1 h', V3.rd_dot h.2.2 h'⟩
theorem V3.rd_mulq {k l : Nat} {v : V3} {q : Rat} (h : v.rd k) (h' : Go.Ar.rd q ≤ l) : (v.mul q).rd (k + l + 1) := ⟨rd_mul h.1 h', rd_mul h.2.1 h', rd_mul h.2.2 h'⟩
theorem G3.rd_adj {k : Nat} {g : G3} (h : g.rd k) : g.adj.rd (2 * (k + k + 1) + 3) := G3.rd_tr ⟨V3.rd_cross h.2.1 h.2.2, V3.rd_cross h.2.2 h.1, V3.rd_cross h.1 h.2.1⟩
def G3.one : G3 := ⟨⟨1, 0, 0⟩, ⟨0, 1, 0⟩, ⟨0, 0, 1⟩⟩
theorem rt1 : rt 1 = [49] := rt_one.2 rfl
theorem rt0 : rt 0 = [48] := rt_zero.2 rfl
set_option maxHeartbeats 2000000 in
theorem Tryz.amade (g : G3) (s : V3) (hg : g.rd 200) (hs : s.rd 200) : Con Tryz.prog Tryz.L 75 [.agg g.L, .agg s.L] (.tup [.agg (M3.mk g s).L, .int .i64 0]) := by
 have va := Tryz.avector g.a
 have vb := Tryz.avector g.b
 have vc := Tryz.avector g.c
 have vs := Tryz.avector s
 have ck := Tryz.amcheck ⟨g, s⟩ ⟨hg, hs⟩
 refine rule75 Tryz.hL rfl rfl rfl ?_
 simp only [V3.L, G3.L, M3.L, pc75, rs75, oU, oC, evX, evY, evZ, forall_const, implies_true, initE, stepF, D.clean, mvF, moF, tkF, shF, ariF, ciF, catF, scF, ebF, eqF, eqOk, eqPr, enF, notF, ngF, cvF, csF, csbF, lenF, lenSF, ixF, iaF, PX.slot, iaAF, faF, ldF, D.mem, stF, bxF, mkSF, boundF, fldF, ixAF, mmF2, D.plain, D.isPure, optAll, D.dull, callVF, splice, D.cells, D.one, sets, resT, D.flat, D.flat0, D.simple, Nat.reduceBNe, Nat.reduceLT, reduceIte, Nat.reduceEqDiff, Nat.reduceAdd, Nat.reduceMul, Nat.reduceSub, Nat.reduceLeDiff, Int.reduceToNat, Int.reduceLT, Int.reduceLE, Int.reduceEq, Int.reduceNeg, Int.reduceSub, Int.reduceAdd, Int.reduceMul, stG_own] at va vb vc vs ck ⊢
 repeat (refine ⟨by decide, ?_⟩)
 refine callF_of va ?_
 (refine ev ?_; try exact ⟨⟩)
 repeat (refine ⟨by decide, ?_⟩)
 refine callF_of vb ?_
 (refine ev ?_; try exact ⟨⟩)
 repeat (refine ⟨by decide, ?_⟩)
 refine callF_of vc ?_
 (refine ev ?_; try exact ⟨⟩)
 repeat (refine ⟨by decide, ?_⟩)
 refine callF_of vs ?_
 (refine ev ?_; try exact ⟨⟩)
 repeat (refine ⟨by decide, ?_⟩)
 refine callF_of ck ?_
 (refine ev ?_; try exact ⟨⟩)
 all_goals rfl
set_option maxHeartbeats 2000000 in
theorem Tryz.aplace (v : V3) (hv : v.rd 200) : Con Tryz.prog Tryz.L 67 [.agg v.L] (.tup [.agg v.L, .int .i64 0]) := by
 have vv := Tryz.avector v
 have ck := Tryz.avcheck v hv
 refine rule67 Tryz.hL rfl rfl rfl ?_
 simp only [V3.L, G3.L, M3.L, pc67, rs67, oU, oC, evX, evY, evZ, forall_const, implies_true, initE, stepF, D.clean, mvF, moF, tkF, shF, ariF, ciF, catF, scF, ebF, eqF, eqOk, eqPr, enF, notF, ngF, cvF, csF, csbF, lenF, lenSF, ixF, iaF, PX.slot, iaAF, faF, ldF, D.mem, stF, bxF, mkSF, boundF, fldF, ixAF, mmF2, D.plain, D.isPure, optAll, D.dull, callVF, splice, D.cells, D.one, sets, resT, D.flat, D.flat0, D.simple, Nat.reduceBNe, Nat.reduceLT, reduceIte, Nat.reduceEqDiff, Nat.reduceAdd, Nat.reduceMul, Nat.reduceSub, Nat.reduceLeDiff, Int.reduceToNat, Int.reduceLT, Int.reduceLE, Int.reduceEq, Int.reduceNeg, Int.reduceSub, Int.reduceAdd, Int.reduceMul, stG_own] at vv ck ⊢
 repeat (refine ⟨by decide, ?_⟩)
 refine callF_of vv ?_
 (refine ev ?_; try exact ⟨⟩)
 repeat (refine ⟨by decide, ?_⟩)
 refine callF_of ck ?_
 (refine ev ?_; try exact ⟨⟩)
 all_goals rfl
set_option maxHeartbeats 2000000 in
theorem Tryz.aunit  : Con Tryz.prog Tryz.L 60 [] (.agg G3.one.L) := by
 refine rule60 Tryz.hL rfl rfl rfl ?_
 simp only [V3.L, G3.L, M3.L, G3.one, rt1, rt0, pc60, rs60, oU, oC, evX, evY, evZ, forall_const, implies_true, initE, stepF, D.clean, mvF, moF, tkF, shF, ariF, ciF, catF, scF, ebF, eqF, eqOk, eqPr, enF, notF, ngF, cvF, csF, csbF, lenF, lenSF, ixF, iaF, PX.slot, iaAF, faF, ldF, D.mem, stF, bxF, mkSF, boundF, fldF, ixAF, mmF2, D.plain, D.isPure, optAll, D.dull, callVF, splice, D.cells, D.one, sets, resT, D.flat, D.flat0, D.simple, Nat.reduceBNe, Nat.reduceLT, reduceIte, Nat.reduceEqDiff, Nat.reduceAdd, Nat.reduceMul, Nat.reduceSub, Nat.reduceLeDiff, Int.reduceToNat, Int.reduceLT, Int.reduceLE, Int.reduceEq, Int.reduceNeg, Int.reduceSub, Int.reduceAdd, Int.reduceMul, stG_own]
 repeat (refine ⟨by decide, ?_⟩)
 all_goals rfl
theorem G3.rd_one : G3.one.rd 1 := ⟨⟨by decide +kernel, by decide +kernel, by decide +kernel⟩, ⟨by decide +kernel, by decide +kernel, by decide +kernel⟩, ⟨by decide +kernel, by decide +kernel, by decide +kernel⟩⟩
theorem V3.rd_zero : V3.zero.rd 1 := ⟨by decide +kernel, by decide +kernel, by decide +kernel⟩
set_option maxHeartbeats 4000000 in
theorem Tryz.ainv (g : G3) (hg : g.rd 300) (h0 : g.det ≠ 0) (hk : rd g.det ≤ 3000) : Con Tryz.prog Tryz.L 86 [.agg g.L] (.agg g.inv.L) := by
 have dt := Tryz.adet g hg (by decide)
 have ha := G3.rd_adj hg
 have di := Tryz.rdiv 1 g.det (by decide +kernel) (by omega) h0
 rw [rt1] at di
 have hi := rd_inv hk h0
 have c1 := Tryz.across g.b g.c hg.2.1 hg.2.2 (by decide)
 have c2 := Tryz.across g.c g.a hg.2.2 hg.1 (by decide)
 have c3 := Tryz.across g.a g.b hg.1 hg.2.1 (by decide)
 have tu : Con Tryz.prog Tryz.L 93 [.agg (G3.L ⟨g.b.cross g.c, g.c.cross g.a, g.a.cross g.b⟩)] (.agg g.adj.L) := Tryz.aturned ⟨g.b.cross g.c, g.c.cross g.a, g.a.cross g.b⟩
 have t1 := Tryz.atimes g.adj.a (1 / g.det) ha.1 (by omega) (by decide)
 have t2 := Tryz.atimes g.adj.b (1 / g.det) ha.2.1 (by omega) (by decide)
 have t3 := Tryz.atimes g.adj.c (1 / g.det) ha.2.2 (by omega) (by decide)
 have hI : g.inv = ⟨g.adj.a.mul (1 / g.det), g.adj.b.mul (1 / g.det), g.adj.c.mul (1 / g.det)⟩ := rfl
 rw [hI]
 generalize g.adj = A at *
 generalize hA : A.a.mul (1 / g.det) = A1 at *
 generalize hB : A.b.mul (1 / g.det) = A2 at *
 generalize hC : A.c.mul (1 / g.det) = A3 at *
 refine rule86 Tryz.hL rfl rfl rfl ?_
 simp only [V3.L, G3.L, pc86, rs86, oU, oC, evX, evY, evZ, forall_const, implies_true, initE, stepF, D.clean, mvF, moF, tkF, shF, ariF, ciF, catF, scF, ebF, eqF, eqOk, eqPr, enF, notF, ngF, cvF, csF, csbF, lenF, lenSF, ixF, iaF, PX.slot, iaAF, faF, ldF, D.mem, stF, bxF, mkSF, boundF, fldF, ixAF, mmF2, D.plain, D.isPure, optAll, D.dull, callVF, splice, D.cells, D.one, sets, resT, D.flat, D.flat0, D.simple, Nat.reduceBNe, Nat.reduceLT, reduceIte, Nat.reduceEqDiff, Nat.reduceAdd, Nat.reduceMul, Nat.reduceSub, Nat.reduceLeDiff, Int.reduceToNat, Int.reduceLT, Int.reduceLE, Int.reduceEq, Int.reduceNeg, Int.reduceSub, Int.reduceAdd, Int.reduceMul, stG_own] at dt di c1 c2 c3 tu t1 t2 t3 ⊢
 repeat (refine ⟨by decide, ?_⟩)
 refine callF_of dt ?_
 (refine ev ?_; try exact ⟨⟩)
 repeat (refine ⟨by decide, ?_⟩)
 refine callF_of di ?_
 (refine ev ?_; try exact ⟨⟩)
 repeat (refine ⟨by decide, ?_⟩)
 refine callF_of c1 ?_
 (refine ev ?_; try exact ⟨⟩)
 repeat (refine ⟨by decide, ?_⟩)
 refine callF_of c2 ?_
 (refine ev ?_; try exact ⟨⟩)
 repeat (refine ⟨by decide, ?_⟩)
 refine callF_of c3 ?_
 (refine ev ?_; try exact ⟨⟩)
 repeat (refine ⟨by decide, ?_⟩)
 refine callF_of tu ?_
 (refine ev ?_; try exact ⟨⟩)
 refine loopF_of (fun E => ∃ (p : List D) (i : Int), ((i = 0 ∧ p = [.str (rt A.a.x), .str (rt A.a.y), .str (rt A.a.z), .str (rt A.b.x), .str (rt A.b.y), .str (rt A.b.z), .str (rt A.c.x), .str (rt A.c.y), .str (rt A.c.z)]) ∨ (i = 1 ∧ p = [.str (rt A1.x), .str (rt A1.y), .str (rt A1.z), .str (rt A.b.x), .str (rt A.b.y), .str (rt A.b.z), .str (rt A.c.x), .str (rt A.c.y), .str (rt A.c.z)]) ∨ (i = 2 ∧ p = [.str (rt A1.x), .str (rt A1.y), .str (rt A1.z), .str (rt A2.x), .str (rt A2.y), .str (rt A2.z), .str (rt A.c.x), .str (rt A.c.y), .str (rt A.c.z)]) ∨ (i = 3 ∧ p = [.str (rt A1.x), .str (rt A1.y), .str (rt A1.z), .str (rt A2.x), .str (rt A2.y), .str (rt A2.z), .str (rt A3.x), .str (rt A3.y), .str (rt A3.z)])) ∧ E = [(2, .box true [.str [], .str [], .str [], .str [], .str [], .str [], .str [], .str [], .str []]), (3, .str (rt (1 / g.det))), (5, .box true p), (30, .int .i64 i)])
  (fun E => match lk E 30 with | .int _ i => (3 - i).toNat | _ => 0) ⟨_, _, .inl ⟨rfl, rfl⟩, by simp⟩ ?_
 rintro _ ⟨p, i, hp, rfl⟩
 rcases hp with ⟨rfl, rfl⟩ | ⟨rfl, rfl⟩ | ⟨rfl, rfl⟩ | ⟨rfl, rfl⟩
 ·(refine ev ?_; try exact ⟨⟩)
  repeat (refine ⟨by decide, ?_⟩)
  refine callF_of t1 ?_
  (refine ev ?_; try exact ⟨⟩)
  repeat (refine ⟨by decide, ?_⟩)
  exact ⟨_, _, .inr (.inl ⟨rfl, rfl⟩), by simp⟩
 ·(refine ev ?_; try exact ⟨⟩)
  repeat (refine ⟨by decide, ?_⟩)
  refine callF_of t2 ?_
  (refine ev ?_; try exact ⟨⟩)
  repeat (refine ⟨by decide, ?_⟩)
  exact ⟨_, _, .inr (.inr (.inl ⟨rfl, rfl⟩)), by simp⟩
 ·(refine ev ?_; try exact ⟨⟩)
  repeat (refine ⟨by decide, ?_⟩)
  refine callF_of t3 ?_
  (refine ev ?_; try exact ⟨⟩)
  repeat (refine ⟨by decide, ?_⟩)
  exact ⟨_, _, .inr (.inr (.inr ⟨rfl, rfl⟩)), by simp⟩
 ·(refine ev ?_; try exact ⟨⟩)
  rfl
set_option maxHeartbeats 2000000 in
theorem Tryz.acheckWith (m : M3) (v : V3) (hm : m.rd 200) (hv : v.rd 200) : Con Tryz.prog Tryz.L 71 [.agg m.L, .agg v.L] (.int .i64 0) := by
 have ck := Tryz.amcheck m hm
 have fi := Tryz.tfirst [v.t] (by simp) (all1.2 (V3.t_sz hv (by decide)))
 rw [chk_t (all1.2 ((V3.t_ok v).2 hv))] at fi
 have fi : Con Tryz.prog Tryz.L 74 [.sl 1 v.L] (.int .i64 0) := fi
 refine rule71 Tryz.hL rfl rfl rfl ?_
 simp only [V3.L, G3.L, M3.L, pc71, rs71, oU, oC, evX, evY, evZ, forall_const, implies_true, initE, stepF, D.clean, mvF, moF, tkF, shF, ariF, ciF, catF, scF, ebF, eqF, eqOk, eqPr, enF, notF, ngF, cvF, csF, csbF, lenF, lenSF, ixF, iaF, PX.slot, iaAF, faF, ldF, D.mem, stF, bxF, mkSF, boundF, fldF, ixAF, mmF2, D.plain, D.isPure, optAll, D.dull, callVF, splice, D.cells, D.one, sets, resT, D.flat, D.flat0, D.simple, Nat.reduceBNe, Nat.reduceLT, reduceIte, Nat.reduceEqDiff, Nat.reduceAdd, Nat.reduceMul, Nat.reduceSub, Nat.reduceLeDiff, Int.reduceToNat, Int.reduceLT, Int.reduceLE, Int.reduceEq, Int.reduceNeg, Int.reduceSub, Int.reduceAdd, Int.reduceMul, stG_own] at ck fi ⊢
 repeat (refine ⟨by decide, ?_⟩)
 refine callF_of ck ?_
 (refine ev ?_; try exact ⟨⟩)
 repeat (refine ⟨by decide, ?_⟩)
 refine callF_of fi ?_
 (refine ev ?_; try exact ⟨⟩)
 all_goals rfl
set_option maxHeartbeats 2000000 in
theorem Tryz.aApply (m : M3) (v : V3) (hm : m.rd 100) (hv : v.rd 100) (hr : ((m.g.app v).add m.s).rd 200) : Con Tryz.prog Tryz.L 20 [.agg m.L, .agg v.L] (.tup [.agg ((m.g.app v).add m.s).L, .int .i64 0]) := by
 have ck := Tryz.acheckWith m v (M3.rd_mono hm (by decide)) (V3.rd_mono hv (by decide))
 have ro := Tryz.arows m
 have o1 := Tryz.aof v
 have ap := Tryz.aapp m.g v hm.1 hv (by decide)
 have o2 := Tryz.aof m.s
 have ad := Tryz.aadd (m.g.app v) m.s (G3.rd_app hm.1 hv) hm.2 (by decide) (by decide)
 have pl := Tryz.aplace ((m.g.app v).add m.s) hr
 refine rule20 Tryz.hL rfl rfl rfl ?_
 simp only [V3.L, G3.L, M3.L, pc20, rs20, oU, oC, evX, evY, evZ, forall_const, implies_true, initE, stepF, D.clean, mvF, moF, tkF, shF, ariF, ciF, catF, scF, ebF, eqF, eqOk, eqPr, enF, notF, ngF, cvF, csF, csbF, lenF, lenSF, ixF, iaF, PX.slot, iaAF, faF, ldF, D.mem, stF, bxF, mkSF, boundF, fldF, ixAF, mmF2, D.plain, D.isPure, optAll, D.dull, callVF, splice, D.cells, D.one, sets, resT, D.flat, D.flat0, D.simple, Nat.reduceBNe, Nat.reduceLT, reduceIte, Nat.reduceEqDiff, Nat.reduceAdd, Nat.reduceMul, Nat.reduceSub, Nat.reduceLeDiff, Int.reduceToNat, Int.reduceLT, Int.reduceLE, Int.reduceEq, Int.reduceNeg, Int.reduceSub, Int.reduceAdd, Int.reduceMul, stG_own] at ck ro o1 ap o2 ad pl ⊢
 repeat (refine ⟨by decide, ?_⟩)
 refine callF_of ck ?_
 (refine ev ?_; try exact ⟨⟩)
 repeat (refine ⟨by decide, ?_⟩)
 refine callF_of ro ?_
 (refine ev ?_; try exact ⟨⟩)
 repeat (refine ⟨by decide, ?_⟩)
 refine callF_of o1 ?_
 (refine ev ?_; try exact ⟨⟩)
 repeat (refine ⟨by decide, ?_⟩)
 refine callF_of ap ?_
 (refine ev ?_; try exact ⟨⟩)
 repeat (refine ⟨by decide, ?_⟩)
 refine callF_of o2 ?_
 (refine ev ?_; try exact ⟨⟩)
 repeat (refine ⟨by decide, ?_⟩)
 refine callF_of ad ?_
 (refine ev ?_; try exact ⟨⟩)
 repeat (refine ⟨by decide, ?_⟩)
 refine callF_of pl ?_
 (refine ev ?_; try exact ⟨⟩)
 all_goals rfl
end Go.Proofs

/-
 AFFINE: planes (CheckPlane, pulled, Pull, Push), printed by tools/aff4.py. Own work.
-/
namespace Go.Proofs
open Go Go.Pi Go.RowKit Go.Shelf Go.Ar Go.Mx

/-- a plane -/
def pL (v : V3) (o : Rat) : List D := [.str (rt v.x), .str (rt v.y), .str (rt v.z), .str (rt o)]
def V3.isZ (v : V3) : Prop := v.x = 0 ∧ v.y = 0 ∧ v.z = 0
theorem Tryz.avzero (v : V3) : Con Tryz.prog Tryz.L 164 [.agg v.L] (.bool (dB v.isZ)) := by
 refine rule164 Tryz.hL rfl rfl rfl ?_
 simp only [V3.L, pc164, rs164, oU, oC, evX, evY, evZ, forall_const, implies_true, initE, stepF, D.clean, mvF, moF, tkF, shF, ariF, ciF, catF, scF, ebF, eqF, eqOk, eqPr, enF, notF, ngF, cvF, csF, csbF, lenF, lenSF, ixF, iaF, PX.slot, iaAF, faF, ldF, D.mem, stF, bxF, mkSF, boundF, fldF, ixAF, mmF2, D.plain, D.isPure, optAll, D.dull, callVF, splice, D.cells, D.one, sets, resT, D.flat, D.flat0, D.simple, Nat.reduceBNe, Nat.reduceLT, reduceIte, Nat.reduceEqDiff, Nat.reduceAdd, Nat.reduceMul, Nat.reduceSub, Nat.reduceLeDiff, Int.reduceToNat, Int.reduceLT, Int.reduceLE, Int.reduceEq, Int.reduceNeg, Int.reduceSub, Int.reduceAdd, Int.reduceMul, stG_own, rt_zero]
 refine ⟨fun hx => ⟨fun hy => ?_, fun hy => (dB_not.2 fun h => hy h.2.1).symm⟩, fun hx => (dB_not.2 fun h => hx h.1).symm⟩
 rw [show v.isZ = (v.z = 0) from propext ⟨fun h => h.2.2, fun h => ⟨hx, hy, h⟩⟩]
theorem Tryz.atzero (v : V3) : Con Tryz.prog Tryz.L 135 [.agg v.L] (.bool (dB v.isZ)) := by
 refine rule135 Tryz.hL rfl rfl rfl ?_
 simp only [V3.L, pc135, rs135, oU, oC, evX, evY, evZ, forall_const, implies_true, initE, stepF, D.clean, mvF, moF, tkF, shF, ariF, ciF, catF, scF, ebF, eqF, eqOk, eqPr, enF, notF, ngF, cvF, csF, csbF, lenF, lenSF, ixF, iaF, PX.slot, iaAF, faF, ldF, D.mem, stF, bxF, mkSF, boundF, fldF, ixAF, mmF2, D.plain, D.isPure, optAll, D.dull, callVF, splice, D.cells, D.one, sets, resT, D.flat, D.flat0, D.simple, Nat.reduceBNe, Nat.reduceLT, reduceIte, Nat.reduceEqDiff, Nat.reduceAdd, Nat.reduceMul, Nat.reduceSub, Nat.reduceLeDiff, Int.reduceToNat, Int.reduceLT, Int.reduceLE, Int.reduceEq, Int.reduceNeg, Int.reduceSub, Int.reduceAdd, Int.reduceMul, stG_own, rt_zero]
 rfl
theorem Tryz.anum4 (v : V3) (o : Rat) (hv : v.rd 200) (ho : rd o ≤ 200) : Con Tryz.prog Tryz.L 146 [.sl 4 (pL v o)] (.int .i64 0) := by
 have := Tryz.tnumbers4 v.t (rt o) (V3.t_sz hv (by decide)) (by have := rt_len o; omega)
 rw [chk_t ⟨(V3.t_ok v).2 hv, (okR_rt o).2 ho⟩] at this
 exact this
set_option maxHeartbeats 2000000 in
theorem Tryz.acp0 (v : V3) (o : Rat) (hv : v.rd 200) (ho : rd o ≤ 200) (hz : ¬v.isZ) : Con Tryz.prog Tryz.L 134 [.agg (pL v o)] (.int .i64 0) := by
 have n4 := Tryz.anum4 v o hv ho
 have vz := Tryz.avzero v
 rw [dB_not.2 hz] at vz
 refine rule134 Tryz.hL rfl rfl rfl ?_
 simp only [V3.L, G3.L, M3.L, pL, pc134, rs134, oU, oC, evX, evY, evZ, forall_const, implies_true, initE, stepF, D.clean, mvF, moF, tkF, shF, ariF, ciF, catF, scF, ebF, eqF, eqOk, eqPr, enF, notF, ngF, cvF, csF, csbF, lenF, lenSF, ixF, iaF, PX.slot, iaAF, faF, ldF, D.mem, stF, bxF, mkSF, boundF, fldF, ixAF, mmF2, D.plain, D.isPure, optAll, D.dull, callVF, splice, D.cells, D.one, sets, resT, D.flat, D.flat0, D.simple, Nat.reduceBNe, Nat.reduceLT, reduceIte, Nat.reduceEqDiff, Nat.reduceAdd, Nat.reduceMul, Nat.reduceSub, Nat.reduceLeDiff, Int.reduceToNat, Int.reduceLT, Int.reduceLE, Int.reduceEq, Int.reduceNeg, Int.reduceSub, Int.reduceAdd, Int.reduceMul, stG_own] at n4 vz ⊢
 repeat (refine ⟨by decide, ?_⟩)
 refine callF_of n4 ?_
 (refine ev ?_; try exact ⟨⟩)
 repeat (refine ⟨by decide, ?_⟩)
 refine callF_of vz ?_
 (refine ev ?_; try exact ⟨⟩)
 all_goals rfl
set_option maxHeartbeats 2000000 in
theorem Tryz.acheckP0 (m : M3) (v : V3) (o : Rat) (hv : v.rd 200) (ho : rd o ≤ 200) (hm : m.rd 200) (hz : ¬v.isZ) : Con Tryz.prog Tryz.L 89 [.agg m.L, .agg (pL v o)] (.int .i64 0) := by
 have ck := Tryz.amcheck m hm
 have cp := Tryz.acp0 v o hv ho hz
 refine rule89 Tryz.hL rfl rfl rfl ?_
 simp only [V3.L, G3.L, M3.L, pL, pc89, rs89, oU, oC, evX, evY, evZ, forall_const, implies_true, initE, stepF, D.clean, mvF, moF, tkF, shF, ariF, ciF, catF, scF, ebF, eqF, eqOk, eqPr, enF, notF, ngF, cvF, csF, csbF, lenF, lenSF, ixF, iaF, PX.slot, iaAF, faF, ldF, D.mem, stF, bxF, mkSF, boundF, fldF, ixAF, mmF2, D.plain, D.isPure, optAll, D.dull, callVF, splice, D.cells, D.one, sets, resT, D.flat, D.flat0, D.simple, Nat.reduceBNe, Nat.reduceLT, reduceIte, Nat.reduceEqDiff, Nat.reduceAdd, Nat.reduceMul, Nat.reduceSub, Nat.reduceLeDiff, Int.reduceToNat, Int.reduceLT, Int.reduceLE, Int.reduceEq, Int.reduceNeg, Int.reduceSub, Int.reduceAdd, Int.reduceMul, stG_own] at ck cp ⊢
 repeat (refine ⟨by decide, ?_⟩)
 refine callF_of ck ?_
 (refine ev ?_; try exact ⟨⟩)
 repeat (refine ⟨by decide, ?_⟩)
 refine callF_of cp ?_
 (refine ev ?_; try exact ⟨⟩)
 all_goals rfl
set_option maxHeartbeats 2000000 in
theorem Tryz.acp17 (v : V3) (o : Rat) (hv : v.rd 200) (ho : rd o ≤ 200) (hz : v.isZ) : Con Tryz.prog Tryz.L 134 [.agg (pL v o)] (.int .i64 17) := by
 have n4 := Tryz.anum4 v o hv ho
 have vz := Tryz.avzero v
 rw [dB_iff.2 hz] at vz
 refine rule134 Tryz.hL rfl rfl rfl ?_
 simp only [V3.L, G3.L, M3.L, pL, pc134, rs134, oU, oC, evX, evY, evZ, forall_const, implies_true, initE, stepF, D.clean, mvF, moF, tkF, shF, ariF, ciF, catF, scF, ebF, eqF, eqOk, eqPr, enF, notF, ngF, cvF, csF, csbF, lenF, lenSF, ixF, iaF, PX.slot, iaAF, faF, ldF, D.mem, stF, bxF, mkSF, boundF, fldF, ixAF, mmF2, D.plain, D.isPure, optAll, D.dull, callVF, splice, D.cells, D.one, sets, resT, D.flat, D.flat0, D.simple, Nat.reduceBNe, Nat.reduceLT, reduceIte, Nat.reduceEqDiff, Nat.reduceAdd, Nat.reduceMul, Nat.reduceSub, Nat.reduceLeDiff, Int.reduceToNat, Int.reduceLT, Int.reduceLE, Int.reduceEq, Int.reduceNeg, Int.reduceSub, Int.reduceAdd, Int.reduceMul, stG_own] at n4 vz ⊢
 repeat (refine ⟨by decide, ?_⟩)
 refine callF_of n4 ?_
 (refine ev ?_; try exact ⟨⟩)
 repeat (refine ⟨by decide, ?_⟩)
 refine callF_of vz ?_
 (refine ev ?_; try exact ⟨⟩)
 all_goals rfl
set_option maxHeartbeats 2000000 in
theorem Tryz.acheckP17 (m : M3) (v : V3) (o : Rat) (hv : v.rd 200) (ho : rd o ≤ 200) (hm : m.rd 200) (hz : v.isZ) : Con Tryz.prog Tryz.L 89 [.agg m.L, .agg (pL v o)] (.int .i64 17) := by
 have ck := Tryz.amcheck m hm
 have cp := Tryz.acp17 v o hv ho hz
 refine rule89 Tryz.hL rfl rfl rfl ?_
 simp only [V3.L, G3.L, M3.L, pL, pc89, rs89, oU, oC, evX, evY, evZ, forall_const, implies_true, initE, stepF, D.clean, mvF, moF, tkF, shF, ariF, ciF, catF, scF, ebF, eqF, eqOk, eqPr, enF, notF, ngF, cvF, csF, csbF, lenF, lenSF, ixF, iaF, PX.slot, iaAF, faF, ldF, D.mem, stF, bxF, mkSF, boundF, fldF, ixAF, mmF2, D.plain, D.isPure, optAll, D.dull, callVF, splice, D.cells, D.one, sets, resT, D.flat, D.flat0, D.simple, Nat.reduceBNe, Nat.reduceLT, reduceIte, Nat.reduceEqDiff, Nat.reduceAdd, Nat.reduceMul, Nat.reduceSub, Nat.reduceLeDiff, Int.reduceToNat, Int.reduceLT, Int.reduceLE, Int.reduceEq, Int.reduceNeg, Int.reduceSub, Int.reduceAdd, Int.reduceMul, stG_own] at ck cp ⊢
 repeat (refine ⟨by decide, ?_⟩)
 refine callF_of ck ?_
 (refine ev ?_; try exact ⟨⟩)
 repeat (refine ⟨by decide, ?_⟩)
 refine callF_of cp ?_
 (refine ev ?_; try exact ⟨⟩)
 all_goals rfl
set_option maxHeartbeats 2000000 in
theorem Tryz.apulled0 {k : Nat} (g : G3) (s v : V3) (o : Rat) (hg : g.rd k) (hs : s.rd k) (hk : k ≤ 700) (hv : v.rd 100) (ho : rd o ≤ 100) (hz : (g.tr.app v).isZ) : Con Tryz.prog Tryz.L 90 [.agg g.L, .agg s.L, .agg (pL v o)] (.tup [.agg [.str [], .str [], .str [], .str []], .int .i64 18]) := by
 have tu := Tryz.aturned g
 have ov := Tryz.aof v
 have ap := Tryz.aapp g.tr v (G3.rd_tr hg) hv (by omega)
 have zz := Tryz.atzero (g.tr.app v)
 rw [dB_iff.2 hz] at zz
 refine rule90 Tryz.hL rfl rfl rfl ?_
 simp only [V3.L, G3.L, M3.L, pL, pc90, rs90, oU, oC, evX, evY, evZ, forall_const, implies_true, initE, stepF, D.clean, mvF, moF, tkF, shF, ariF, ciF, catF, scF, ebF, eqF, eqOk, eqPr, enF, notF, ngF, cvF, csF, csbF, lenF, lenSF, ixF, iaF, PX.slot, iaAF, faF, ldF, D.mem, stF, bxF, mkSF, boundF, fldF, ixAF, mmF2, D.plain, D.isPure, optAll, D.dull, callVF, splice, D.cells, D.one, sets, resT, D.flat, D.flat0, D.simple, Nat.reduceBNe, Nat.reduceLT, reduceIte, Nat.reduceEqDiff, Nat.reduceAdd, Nat.reduceMul, Nat.reduceSub, Nat.reduceLeDiff, Int.reduceToNat, Int.reduceLT, Int.reduceLE, Int.reduceEq, Int.reduceNeg, Int.reduceSub, Int.reduceAdd, Int.reduceMul, stG_own] at tu ov ap zz ⊢
 repeat (refine ⟨by decide, ?_⟩)
 refine callF_of tu ?_
 (refine ev ?_; try exact ⟨⟩)
 repeat (refine ⟨by decide, ?_⟩)
 refine callF_of ov ?_
 (refine ev ?_; try exact ⟨⟩)
 repeat (refine ⟨by decide, ?_⟩)
 refine callF_of ap ?_
 (refine ev ?_; try exact ⟨⟩)
 repeat (refine ⟨by decide, ?_⟩)
 refine callF_of zz ?_
 (refine ev ?_; try exact ⟨⟩)
 all_goals rfl
set_option maxHeartbeats 2000000 in
theorem Tryz.apulled {k : Nat} (g : G3) (s v : V3) (o : Rat) (hg : g.rd k) (hs : s.rd k) (hk : k ≤ 700) (hv : v.rd 100) (ho : rd o ≤ 100) (hz : ¬(g.tr.app v).isZ) (h1 : (g.tr.app v).rd 200) (h2 : rd (o - v.dot s) ≤ 200) : Con Tryz.prog Tryz.L 90 [.agg g.L, .agg s.L, .agg (pL v o)] (.tup [.agg (pL (g.tr.app v) (o - v.dot s)), .int .i64 0]) := by
 have tu := Tryz.aturned g
 have ov := Tryz.aof v
 have ap := Tryz.aapp g.tr v (G3.rd_tr hg) hv (by omega)
 have zz := Tryz.atzero (g.tr.app v)
 rw [dB_not.2 hz] at zz
 have ve := Tryz.avector (g.tr.app v)
 have dt := Tryz.adot v s hv hs (by omega)
 have su := Tryz.rsub o (v.dot s) (by omega) (by have := V3.rd_dot hv hs; omega)
 have cp := Tryz.acp0 (g.tr.app v) (o - v.dot s) h1 h2 hz
 refine rule90 Tryz.hL rfl rfl rfl ?_
 simp only [V3.L, G3.L, M3.L, pL, pc90, rs90, oU, oC, evX, evY, evZ, forall_const, implies_true, initE, stepF, D.clean, mvF, moF, tkF, shF, ariF, ciF, catF, scF, ebF, eqF, eqOk, eqPr, enF, notF, ngF, cvF, csF, csbF, lenF, lenSF, ixF, iaF, PX.slot, iaAF, faF, ldF, D.mem, stF, bxF, mkSF, boundF, fldF, ixAF, mmF2, D.plain, D.isPure, optAll, D.dull, callVF, splice, D.cells, D.one, sets, resT, D.flat, D.flat0, D.simple, Nat.reduceBNe, Nat.reduceLT, reduceIte, Nat.reduceEqDiff, Nat.reduceAdd, Nat.reduceMul, Nat.reduceSub, Nat.reduceLeDiff, Int.reduceToNat, Int.reduceLT, Int.reduceLE, Int.reduceEq, Int.reduceNeg, Int.reduceSub, Int.reduceAdd, Int.reduceMul, stG_own] at tu ov ap zz ve dt su cp ⊢
 repeat (refine ⟨by decide, ?_⟩)
 refine callF_of tu ?_
 (refine ev ?_; try exact ⟨⟩)
 repeat (refine ⟨by decide, ?_⟩)
 refine callF_of ov ?_
 (refine ev ?_; try exact ⟨⟩)
 repeat (refine ⟨by decide, ?_⟩)
 refine callF_of ap ?_
 (refine ev ?_; try exact ⟨⟩)
 repeat (refine ⟨by decide, ?_⟩)
 refine callF_of zz ?_
 (refine ev ?_; try exact ⟨⟩)
 repeat (refine ⟨by decide, ?_⟩)
 refine callF_of ve ?_
 (refine ev ?_; try exact ⟨⟩)
 repeat (refine ⟨by decide, ?_⟩)
 refine callF_of ov ?_
 (refine ev ?_; try exact ⟨⟩)
 repeat (refine ⟨by decide, ?_⟩)
 refine callF_of dt ?_
 (refine ev ?_; try exact ⟨⟩)
 repeat (refine ⟨by decide, ?_⟩)
 refine callF_of su ?_
 (refine ev ?_; try exact ⟨⟩)
 repeat (refine ⟨by decide, ?_⟩)
 refine callF_of cp ?_
 (refine ev ?_; try exact ⟨⟩)
 all_goals rfl
set_option maxHeartbeats 2000000 in
theorem Tryz.aPull17 (m : M3) (v : V3) (o : Rat) (hm : m.rd 100) (hv : v.rd 100) (ho : rd o ≤ 100) (hz : v.isZ) : Con Tryz.prog Tryz.L 41 [.agg m.L, .agg (pL v o)] (.tup [.agg [.str [], .str [], .str [], .str []], .int .i64 17]) := by
 have ck := Tryz.acheckP17 m v o (V3.rd_mono hv (by decide)) (by omega) (M3.rd_mono hm (by decide)) hz
 refine rule41 Tryz.hL rfl rfl rfl ?_
 simp only [V3.L, G3.L, M3.L, pL, pc41, rs41, oU, oC, evX, evY, evZ, forall_const, implies_true, initE, stepF, D.clean, mvF, moF, tkF, shF, ariF, ciF, catF, scF, ebF, eqF, eqOk, eqPr, enF, notF, ngF, cvF, csF, csbF, lenF, lenSF, ixF, iaF, PX.slot, iaAF, faF, ldF, D.mem, stF, bxF, mkSF, boundF, fldF, ixAF, mmF2, D.plain, D.isPure, optAll, D.dull, callVF, splice, D.cells, D.one, sets, resT, D.flat, D.flat0, D.simple, Nat.reduceBNe, Nat.reduceLT, reduceIte, Nat.reduceEqDiff, Nat.reduceAdd, Nat.reduceMul, Nat.reduceSub, Nat.reduceLeDiff, Int.reduceToNat, Int.reduceLT, Int.reduceLE, Int.reduceEq, Int.reduceNeg, Int.reduceSub, Int.reduceAdd, Int.reduceMul, stG_own] at ck ⊢
 repeat (refine ⟨by decide, ?_⟩)
 refine callF_of ck ?_
 (refine ev ?_; try exact ⟨⟩)
 all_goals rfl
set_option maxHeartbeats 2000000 in
theorem Tryz.aPull18 (m : M3) (v : V3) (o : Rat) (hm : m.rd 100) (hv : v.rd 100) (ho : rd o ≤ 100) (hz : ¬v.isZ) (hn : (m.g.tr.app v).isZ) : Con Tryz.prog Tryz.L 41 [.agg m.L, .agg (pL v o)] (.tup [.agg [.str [], .str [], .str [], .str []], .int .i64 18]) := by
 have ck := Tryz.acheckP0 m v o (V3.rd_mono hv (by decide)) (by omega) (M3.rd_mono hm (by decide)) hz
 have ro := Tryz.arows m
 have os := Tryz.aof m.s
 have pu := Tryz.apulled0 m.g m.s v o hm.1 hm.2 (by decide) hv ho hn
 refine rule41 Tryz.hL rfl rfl rfl ?_
 simp only [V3.L, G3.L, M3.L, pL, pc41, rs41, oU, oC, evX, evY, evZ, forall_const, implies_true, initE, stepF, D.clean, mvF, moF, tkF, shF, ariF, ciF, catF, scF, ebF, eqF, eqOk, eqPr, enF, notF, ngF, cvF, csF, csbF, lenF, lenSF, ixF, iaF, PX.slot, iaAF, faF, ldF, D.mem, stF, bxF, mkSF, boundF, fldF, ixAF, mmF2, D.plain, D.isPure, optAll, D.dull, callVF, splice, D.cells, D.one, sets, resT, D.flat, D.flat0, D.simple, Nat.reduceBNe, Nat.reduceLT, reduceIte, Nat.reduceEqDiff, Nat.reduceAdd, Nat.reduceMul, Nat.reduceSub, Nat.reduceLeDiff, Int.reduceToNat, Int.reduceLT, Int.reduceLE, Int.reduceEq, Int.reduceNeg, Int.reduceSub, Int.reduceAdd, Int.reduceMul, stG_own] at ck ro os pu ⊢
 repeat (refine ⟨by decide, ?_⟩)
 refine callF_of ck ?_
 (refine ev ?_; try exact ⟨⟩)
 repeat (refine ⟨by decide, ?_⟩)
 refine callF_of ro ?_
 (refine ev ?_; try exact ⟨⟩)
 repeat (refine ⟨by decide, ?_⟩)
 refine callF_of os ?_
 (refine ev ?_; try exact ⟨⟩)
 repeat (refine ⟨by decide, ?_⟩)
 refine callF_of pu ?_
 (refine ev ?_; try exact ⟨⟩)
 all_goals rfl
set_option maxHeartbeats 2000000 in
theorem Tryz.aPull (m : M3) (v : V3) (o : Rat) (hm : m.rd 100) (hv : v.rd 100) (ho : rd o ≤ 100) (hz : ¬v.isZ) (hn : ¬(m.g.tr.app v).isZ) (h1 : (m.g.tr.app v).rd 200) (h2 : rd (o - v.dot m.s) ≤ 200) : Con Tryz.prog Tryz.L 41 [.agg m.L, .agg (pL v o)] (.tup [.agg (pL (m.g.tr.app v) (o - v.dot m.s)), .int .i64 0]) := by
 have ck := Tryz.acheckP0 m v o (V3.rd_mono hv (by decide)) (by omega) (M3.rd_mono hm (by decide)) hz
 have ro := Tryz.arows m
 have os := Tryz.aof m.s
 have pu := Tryz.apulled m.g m.s v o hm.1 hm.2 (by decide) hv ho hn h1 h2
 refine rule41 Tryz.hL rfl rfl rfl ?_
 simp only [V3.L, G3.L, M3.L, pL, pc41, rs41, oU, oC, evX, evY, evZ, forall_const, implies_true, initE, stepF, D.clean, mvF, moF, tkF, shF, ariF, ciF, catF, scF, ebF, eqF, eqOk, eqPr, enF, notF, ngF, cvF, csF, csbF, lenF, lenSF, ixF, iaF, PX.slot, iaAF, faF, ldF, D.mem, stF, bxF, mkSF, boundF, fldF, ixAF, mmF2, D.plain, D.isPure, optAll, D.dull, callVF, splice, D.cells, D.one, sets, resT, D.flat, D.flat0, D.simple, Nat.reduceBNe, Nat.reduceLT, reduceIte, Nat.reduceEqDiff, Nat.reduceAdd, Nat.reduceMul, Nat.reduceSub, Nat.reduceLeDiff, Int.reduceToNat, Int.reduceLT, Int.reduceLE, Int.reduceEq, Int.reduceNeg, Int.reduceSub, Int.reduceAdd, Int.reduceMul, stG_own] at ck ro os pu ⊢
 repeat (refine ⟨by decide, ?_⟩)
 refine callF_of ck ?_
 (refine ev ?_; try exact ⟨⟩)
 repeat (refine ⟨by decide, ?_⟩)
 refine callF_of ro ?_
 (refine ev ?_; try exact ⟨⟩)
 repeat (refine ⟨by decide, ?_⟩)
 refine callF_of os ?_
 (refine ev ?_; try exact ⟨⟩)
 repeat (refine ⟨by decide, ?_⟩)
 refine callF_of pu ?_
 (refine ev ?_; try exact ⟨⟩)
 all_goals rfl
set_option maxHeartbeats 2000000 in
theorem Tryz.aPush18 (m : M3) (v : V3) (o : Rat) (hm : m.rd 100) (hv : v.rd 100) (ho : rd o ≤ 100) (hz : ¬v.isZ) (h0 : m.g.det = 0) : Con Tryz.prog Tryz.L 42 [.agg m.L, .agg (pL v o)] (.tup [.agg [.str [], .str [], .str [], .str []], .int .i64 18]) := by
 have ck := Tryz.acheckP0 m v o (V3.rd_mono hv (by decide)) (by omega) (M3.rd_mono hm (by decide)) hz
 have ro := Tryz.arows m
 have dt := Tryz.adet m.g hm.1 (by decide)
 rw [h0, rt0] at dt
 refine rule42 Tryz.hL rfl rfl rfl ?_
 simp only [V3.L, G3.L, M3.L, pL, pc42, rs42, oU, oC, evX, evY, evZ, forall_const, implies_true, initE, stepF, D.clean, mvF, moF, tkF, shF, ariF, ciF, catF, scF, ebF, eqF, eqOk, eqPr, enF, notF, ngF, cvF, csF, csbF, lenF, lenSF, ixF, iaF, PX.slot, iaAF, faF, ldF, D.mem, stF, bxF, mkSF, boundF, fldF, ixAF, mmF2, D.plain, D.isPure, optAll, D.dull, callVF, splice, D.cells, D.one, sets, resT, D.flat, D.flat0, D.simple, Nat.reduceBNe, Nat.reduceLT, reduceIte, Nat.reduceEqDiff, Nat.reduceAdd, Nat.reduceMul, Nat.reduceSub, Nat.reduceLeDiff, Int.reduceToNat, Int.reduceLT, Int.reduceLE, Int.reduceEq, Int.reduceNeg, Int.reduceSub, Int.reduceAdd, Int.reduceMul, stG_own] at ck ro dt ⊢
 repeat (refine ⟨by decide, ?_⟩)
 refine callF_of ck ?_
 (refine ev ?_; try exact ⟨⟩)
 repeat (refine ⟨by decide, ?_⟩)
 refine callF_of ro ?_
 (refine ev ?_; try exact ⟨⟩)
 repeat (refine ⟨by decide, ?_⟩)
 refine callF_of dt ?_
 (refine ev ?_; try exact ⟨⟩)
 all_goals rfl
set_option maxHeartbeats 2000000 in
theorem Tryz.aPush (m : M3) (v : V3) (o : Rat) (hm : m.rd 100) (hv : v.rd 100) (ho : rd o ≤ 100) (hz : ¬v.isZ) (h0 : m.g.det ≠ 0) (hk : rd m.g.det ≤ 3000) (hi : m.inv.rd 500) (hn : ¬(m.g.inv.tr.app v).isZ) (h1 : (m.g.inv.tr.app v).rd 200) (h2 : rd (o - v.dot m.inv.s) ≤ 200) : Con Tryz.prog Tryz.L 42 [.agg m.L, .agg (pL v o)] (.tup [.agg (pL (m.g.inv.tr.app v) (o - v.dot m.inv.s)), .int .i64 0]) := by
 have ck := Tryz.acheckP0 m v o (V3.rd_mono hv (by decide)) (by omega) (M3.rd_mono hm (by decide)) hz
 have ro := Tryz.arows m
 have dt := Tryz.adet m.g hm.1 (by decide)
 have hne : ¬rt m.g.det = [48] := fun h => h0 (rt_zero.1 h)
 have iv := Tryz.ainv m.g (G3.rd_mono hm.1 (by decide)) h0 hk
 have os := Tryz.aof m.s
 have ap := Tryz.aapp m.g.inv m.s hi.1 hm.2 (by decide)
 have ti := Tryz.atimes (m.g.inv.app m.s) (-1) (G3.rd_app hi.1 hm.2) (by decide +kernel) (by decide)
 rw [show rt (-1) = [45, 49] by decide +kernel] at ti
 have pu := Tryz.apulled m.g.inv m.inv.s v o hi.1 hi.2 (by decide) hv ho hn h1 h2
 have hS : m.inv.s = (m.g.inv.app m.s).mul (-1) := rfl
 rw [hS] at pu ⊢
 refine rule42 Tryz.hL rfl rfl rfl ?_
 simp only [V3.L, G3.L, M3.L, pL, pc42, rs42, oU, oC, evX, evY, evZ, forall_const, implies_true, initE, stepF, D.clean, mvF, moF, tkF, shF, ariF, ciF, catF, scF, ebF, eqF, eqOk, eqPr, enF, notF, ngF, cvF, csF, csbF, lenF, lenSF, ixF, iaF, PX.slot, iaAF, faF, ldF, D.mem, stF, bxF, mkSF, boundF, fldF, ixAF, mmF2, D.plain, D.isPure, optAll, D.dull, callVF, splice, D.cells, D.one, sets, resT, D.flat, D.flat0, D.simple, Nat.reduceBNe, Nat.reduceLT, reduceIte, Nat.reduceEqDiff, Nat.reduceAdd, Nat.reduceMul, Nat.reduceSub, Nat.reduceLeDiff, Int.reduceToNat, Int.reduceLT, Int.reduceLE, Int.reduceEq, Int.reduceNeg, Int.reduceSub, Int.reduceAdd, Int.reduceMul, stG_own] at ck ro dt iv os ap ti pu ⊢
 repeat (refine ⟨by decide, ?_⟩)
 refine callF_of ck ?_
 (refine ev ?_; try exact ⟨⟩)
 repeat (refine ⟨by decide, ?_⟩)
 refine callF_of ro ?_
 (refine ev ?_; try exact ⟨⟩)
 repeat (refine ⟨by decide, ?_⟩)
 refine callF_of dt ?_
 (refine ev ?_; try exact ⟨⟩)
 refine ⟨fun h => absurd h hne, fun _ => ?_⟩
 repeat (refine ⟨by decide, ?_⟩)
 refine callF_of iv ?_
 (refine ev ?_; try exact ⟨⟩)
 repeat (refine ⟨by decide, ?_⟩)
 refine callF_of os ?_
 (refine ev ?_; try exact ⟨⟩)
 repeat (refine ⟨by decide, ?_⟩)
 refine callF_of ap ?_
 (refine ev ?_; try exact ⟨⟩)
 repeat (refine ⟨by decide, ?_⟩)
 refine callF_of ti ?_
 (refine ev ?_; try exact ⟨⟩)
 repeat (refine ⟨by decide, ?_⟩)
 refine callF_of pu ?_
 (refine ev ?_; try exact ⟨⟩)
 all_goals rfl
end Go.Proofs

/-
 AFFINE: Fixed. Own work.
-/
namespace Go.Proofs
open Go Go.Pi Go.RowKit Go.Shelf Go.Ar Go.Mx

theorem Tryz.alist (v : V3) : Con Tryz.prog Tryz.L 61 [.agg v.L] (.sl 3 v.L) := by
 refine rule61 Tryz.hL rfl rfl rfl ?_
 simp only [V3.L, pc61, rs61, oU, oC, evX, evY, evZ, forall_const, implies_true, initE, stepF, D.clean, mvF, moF, tkF, shF, ariF, ciF, catF, scF, ebF, eqF, eqOk, eqPr, enF, notF, ngF, cvF, csF, csbF, lenF, lenSF, ixF, iaF, PX.slot, iaAF, faF, ldF, D.mem, stF, bxF, mkSF, boundF, fldF, ixAF, mmF2, D.plain, D.isPure, optAll, D.dull, callVF, splice, D.cells, D.one, sets, resT, D.flat, D.flat0, D.simple, Nat.reduceBNe, Nat.reduceLT, reduceIte, Nat.reduceEqDiff, Nat.reduceAdd, Nat.reduceMul, Nat.reduceSub, Nat.reduceLeDiff, Int.reduceToNat, Int.reduceLT, Int.reduceLE, Int.reduceEq, Int.reduceNeg, Int.reduceSub, Int.reduceAdd, Int.reduceMul, stG_own]
/-- the rows less those of the identity -/
def M3.fr (m : M3) (i : Nat) : V3 := (m.g.row i).sub (G3.one.row i)
def M3.fF (m : M3) : Mtx := fun i j => (m.fr i).at' j
def M3.fy (m : M3) : Nat → Rat := fun i => -(m.s.at' i)
theorem M3.f_mat (m : M3) : matD 3 3 m.fF = .sl 3 [.sl 3 (m.fr 0).L, .sl 3 (m.fr 1).L, .sl 3 (m.fr 2).L] := rfl
theorem M3.f_rhs (m : M3) : rowD 3 m.fy = .sl 3 [.str (rt (-m.s.x)), .str (rt (-m.s.y)), .str (rt (-m.s.z))] := rfl
theorem strs3 (f : Nat → Rat) : strs 3 f = [.str (rt (f 0)), .str (rt (f 1)), .str (rt (f 2))] := rfl
/-- the free directions -/
def fixK (K : RSt) (n : Nat) : List D := tsD (lst n fun i => (V3.of (kerM K 3 i)).t)
theorem fixK_succ (K : RSt) (n : Nat) : fixK K (n + 1) = fixK K n ++ (V3.of (kerM K 3 n)).L := by
 unfold fixK tsD
 rw [lst_succ, List.flatMap_append]
 simp [T3.L, V3.t, V3.L]
theorem fixK_len (K : RSt) (n : Nat) : (fixK K n).length = 3 * n := by
 unfold fixK; rw [tsD_len, lst_len]
noncomputable def fixR (s K : RSt) : D := @ite D (okS 3 3 s) (Classical.propDecidable _) (.tup [.agg (V3.of (solV s 3)).L, .sl (freeC K.lead 3).length (fixK K (freeC K.lead 3).length), .bool true, .int .i64 0]) (.tup [.agg [.str [], .str [], .str []], .sl 0 [], .bool false, .int .i64 0])
set_option maxRecDepth 100000 in
set_option maxHeartbeats 8000000 in
theorem Tryz.aFixed (m : M3) (w : Nat) (h3 : w = 3) (hm : m.rd 20) (hw : RBs 2 3 (w + 1) (wideM w m.fF fun i _ => m.fy i)) (hF : RBs 2 3 w m.fF) : Con Tryz.prog Tryz.L 14 [.agg m.L] (fixR (redM 3 (wideM w m.fF fun i _ => m.fy i) w) (redM 3 m.fF w)) := by
 have ck := Tryz.amcheck m (M3.rd_mono hm (by decide))
 have ro := Tryz.arows m
 have un := Tryz.aunit
 have h1 := G3.rd_one
 have s0 : Con Tryz.prog Tryz.L 59 [.agg m.g.a.L, .agg G3.one.a.L] (.agg (m.fr 0).L) := Tryz.asub m.g.a G3.one.a hm.1.1 h1.1 (by decide) (by decide)
 have s1 : Con Tryz.prog Tryz.L 59 [.agg m.g.b.L, .agg G3.one.b.L] (.agg (m.fr 1).L) := Tryz.asub m.g.b G3.one.b hm.1.2.1 h1.2.1 (by decide) (by decide)
 have s2 : Con Tryz.prog Tryz.L 59 [.agg m.g.c.L, .agg G3.one.c.L] (.agg (m.fr 2).L) := Tryz.asub m.g.c G3.one.c hm.1.2.2 h1.2.2 (by decide) (by decide)
 have l0 := Tryz.alist (m.fr 0); have l1 := Tryz.alist (m.fr 1); have l2 := Tryz.alist (m.fr 2)
 have os := Tryz.aof m.s
 have n0 := Tryz.rneg m.s.x (by have := hm.2.1; omega)
 have n1 := Tryz.rneg m.s.y (by have := hm.2.2.1; omega)
 have n2 := Tryz.rneg m.s.z (by have := hm.2.2.2; omega)
 have hp : (2 + 1) * 2 ^ w = 24 := by rw [h3]
 have hwr := rbs_red hw (w := w) (by omega)
 have hFr := rbs_red hF (w := w) (Nat.le_refl _)
 rw [hp] at hwr hFr
 have hgd := good_red 3 m.fF w
 have hfc := free_count hgd.inc hgd.lt
 have hle : (redM 3 (wideM w m.fF fun i _ => m.fy i) w).lead.length ≤ 3 := (good_red 3 _ w).len
 have hrt : Rts 3 w m.fF := rts_of hF (by decide)
 have hyr : Rt 3 m.fy := fun i hi => by
  have := rd_of_nb ((hw i hi).nb (j := w) (by omega))
  have e : wideM w m.fF (fun i _ => m.fy i) i w = m.fy i := if_neg (by omega)
  rw [e] at this
  show rd (m.fy i) ≤ 200
  omega
 have hsn := solV_nb (n := 3) (m := w) hwr hle
 have hsv : (V3.of (solV (redM 3 (wideM w m.fF fun i _ => m.fy i) w) w)).rd 200 := ⟨by have := rd_of_nb (hsn 0); exact Nat.le_trans this (by decide), by have := rd_of_nb (hsn 1); exact Nat.le_trans this (by decide), by have := rd_of_nb (hsn 2); exact Nat.le_trans this (by decide)⟩
 have hS := Tryz.msolveW 3 w m.fF m.fy (by decide) (by decide) (by omega) hrt hyr (bnd_of hw (by omega) (by omega)) (fun _ j _ => by have := rd_of_nb (hsn j); exact Nat.le_trans this (by decide))
 have hK := Tryz.mkernel 3 w m.fF (by decide) (by omega) (fun h => absurd h (by decide)) hrt (bnd_of hF (Nat.le_refl _) (by omega)) (fun i hi j _ => by have := rd_of_nb (kerM_nb hFr hgd hi j); exact Nat.le_trans this (by decide))
 have pl := Tryz.aplace (V3.of (solV (redM 3 (wideM w m.fF fun i _ => m.fy i) w) w)) hsv
 have vv := fun i => Tryz.avector (V3.of (kerM (redM 3 m.fF w) w i))
 generalize redM 3 (wideM w m.fF fun i _ => m.fy i) w = S at *
 generalize redM 3 m.fF w = K at *
 clear hwr hFr hsn hrt hyr hsv hp hw hF
 subst h3
 rw [M3.f_rhs] at hS
 rw [M3.f_mat] at hS hK
 generalize hN : (freeC K.lead 3).length = N at *
 refine rule14 Tryz.hL (by unfold fixR; split <;> rfl) rfl rfl ?_
 simp only [V3.L, M3.L, G3.L, pc14, rs14, oU, oC, evX, evY, evZ, forall_const, implies_true, initE, stepF, D.clean, mvF, moF, tkF, shF, ariF, ciF, catF, scF, ebF, eqF, eqOk, eqPr, enF, notF, ngF, cvF, csF, csbF, lenF, lenSF, ixF, iaF, PX.slot, iaAF, faF, ldF, D.mem, stF, bxF, mkSF, boundF, fldF, ixAF, mmF2, D.plain, D.isPure, optAll, D.dull, callVF, splice, D.cells, D.one, sets, resT, D.flat, D.flat0, D.simple, Nat.reduceBNe, Nat.reduceLT, reduceIte, Nat.reduceEqDiff, Nat.reduceAdd, Nat.reduceMul, Nat.reduceSub, Nat.reduceLeDiff, Int.reduceToNat, Int.reduceLT, Int.reduceLE, Int.reduceEq, Int.reduceNeg, Int.reduceSub, Int.reduceAdd, Int.reduceMul, stG_own] at ck ro un s0 s1 s2 l0 l1 l2 os pl hS hK ⊢
 refine callF_of ck ?_
 (refine ev ?_; try exact ⟨⟩)
 refine callF_of ro ?_
 (refine ev ?_; try exact ⟨⟩)
 refine loopF_of (fun E => ∃ (p q : D) (i : Int), ((i = 0 ∧ p = .own true 59 0 [] ∧ q = .own true 28 0 []) ∨ (i = 1 ∧ p = .own true 59 1 [.sl 3 (m.fr 0).L] ∧ q = .own true 28 1 [.str (rt (-m.s.x))]) ∨ (i = 2 ∧ p = .own true 59 2 [.sl 3 (m.fr 0).L, .sl 3 (m.fr 1).L] ∧ q = .own true 28 2 [.str (rt (-m.s.x)), .str (rt (-m.s.y))]) ∨ (i = 3 ∧ p = .own true 59 3 [.sl 3 (m.fr 0).L, .sl 3 (m.fr 1).L, .sl 3 (m.fr 2).L] ∧ q = .own true 28 3 [.str (rt (-m.s.x)), .str (rt (-m.s.y)), .str (rt (-m.s.z))])) ∧ E = [(1, .box true m.L), (2, .box true [.str [], .str [], .str []]), (3, .own true 30 0 []), (8, p), (9, q), (26, .agg m.g.L), (27, .int .i64 i)])
  (fun E => match lk E 27 with | .int _ i => (3 - i).toNat | _ => 0) ⟨_, _, _, .inl ⟨rfl, rfl, rfl⟩, by simp [M3.L, G3.L]⟩ ?_
 rintro _ ⟨p, q, i, hp, rfl⟩
 rcases hp with ⟨rfl, rfl, rfl⟩ | ⟨rfl, rfl, rfl⟩ | ⟨rfl, rfl, rfl⟩ | ⟨rfl, rfl, rfl⟩
 ·simp only [V3.L, M3.L, G3.L, evX, evY, evZ, forall_const, implies_true, initE, stepF, D.clean, mvF, moF, tkF, shF, ariF, ciF, catF, scF, ebF, eqF, eqOk, eqPr, enF, notF, ngF, cvF, csF, csbF, lenF, lenSF, ixF, iaF, PX.slot, iaAF, faF, ldF, D.mem, stF, bxF, mkSF, boundF, fldF, ixAF, mmF2, D.plain, D.isPure, optAll, D.dull, callVF, splice, D.cells, D.one, sets, resT, D.flat, D.flat0, D.simple, Nat.reduceBNe, Nat.reduceLT, reduceIte, Nat.reduceEqDiff, Nat.reduceAdd, Nat.reduceMul, Nat.reduceSub, Nat.reduceLeDiff, Int.reduceToNat, Int.reduceLT, Int.reduceLE, Int.reduceEq, Int.reduceNeg, Int.reduceSub, Int.reduceAdd, Int.reduceMul, stG_own]
  repeat (refine ⟨by decide, ?_⟩)
  refine callF_of un ?_
  (refine ev ?_; try exact ⟨⟩)
  repeat (refine ⟨by decide, ?_⟩)
  refine callF_of s0 ?_
  (refine ev ?_; try exact ⟨⟩)
  refine callF_of l0 ?_
  (refine ev ?_; try exact ⟨⟩)
  repeat (refine ⟨by decide, ?_⟩)
  refine callF_of os ?_
  (refine ev ?_; try exact ⟨⟩)
  repeat (refine ⟨by decide, ?_⟩)
  refine callF_of n0 ?_
  (refine ev ?_; try exact ⟨⟩)
  repeat (refine ⟨by decide, ?_⟩)
  exact ⟨_, _, _, .inr (.inl ⟨rfl, rfl, rfl⟩), by simp [M3.L, G3.L, V3.L]⟩
 ·simp only [V3.L, M3.L, G3.L, evX, evY, evZ, forall_const, implies_true, initE, stepF, D.clean, mvF, moF, tkF, shF, ariF, ciF, catF, scF, ebF, eqF, eqOk, eqPr, enF, notF, ngF, cvF, csF, csbF, lenF, lenSF, ixF, iaF, PX.slot, iaAF, faF, ldF, D.mem, stF, bxF, mkSF, boundF, fldF, ixAF, mmF2, D.plain, D.isPure, optAll, D.dull, callVF, splice, D.cells, D.one, sets, resT, D.flat, D.flat0, D.simple, Nat.reduceBNe, Nat.reduceLT, reduceIte, Nat.reduceEqDiff, Nat.reduceAdd, Nat.reduceMul, Nat.reduceSub, Nat.reduceLeDiff, Int.reduceToNat, Int.reduceLT, Int.reduceLE, Int.reduceEq, Int.reduceNeg, Int.reduceSub, Int.reduceAdd, Int.reduceMul, stG_own]
  repeat (refine ⟨by decide, ?_⟩)
  refine callF_of un ?_
  (refine ev ?_; try exact ⟨⟩)
  repeat (refine ⟨by decide, ?_⟩)
  refine callF_of s1 ?_
  (refine ev ?_; try exact ⟨⟩)
  refine callF_of l1 ?_
  (refine ev ?_; try exact ⟨⟩)
  repeat (refine ⟨by decide, ?_⟩)
  refine callF_of os ?_
  (refine ev ?_; try exact ⟨⟩)
  repeat (refine ⟨by decide, ?_⟩)
  refine callF_of n1 ?_
  (refine ev ?_; try exact ⟨⟩)
  repeat (refine ⟨by decide, ?_⟩)
  exact ⟨_, _, _, .inr (.inr (.inl ⟨rfl, rfl, rfl⟩)), by simp [M3.L, G3.L, V3.L]⟩
 ·simp only [V3.L, M3.L, G3.L, evX, evY, evZ, forall_const, implies_true, initE, stepF, D.clean, mvF, moF, tkF, shF, ariF, ciF, catF, scF, ebF, eqF, eqOk, eqPr, enF, notF, ngF, cvF, csF, csbF, lenF, lenSF, ixF, iaF, PX.slot, iaAF, faF, ldF, D.mem, stF, bxF, mkSF, boundF, fldF, ixAF, mmF2, D.plain, D.isPure, optAll, D.dull, callVF, splice, D.cells, D.one, sets, resT, D.flat, D.flat0, D.simple, Nat.reduceBNe, Nat.reduceLT, reduceIte, Nat.reduceEqDiff, Nat.reduceAdd, Nat.reduceMul, Nat.reduceSub, Nat.reduceLeDiff, Int.reduceToNat, Int.reduceLT, Int.reduceLE, Int.reduceEq, Int.reduceNeg, Int.reduceSub, Int.reduceAdd, Int.reduceMul, stG_own]
  repeat (refine ⟨by decide, ?_⟩)
  refine callF_of un ?_
  (refine ev ?_; try exact ⟨⟩)
  repeat (refine ⟨by decide, ?_⟩)
  refine callF_of s2 ?_
  (refine ev ?_; try exact ⟨⟩)
  refine callF_of l2 ?_
  (refine ev ?_; try exact ⟨⟩)
  repeat (refine ⟨by decide, ?_⟩)
  refine callF_of os ?_
  (refine ev ?_; try exact ⟨⟩)
  repeat (refine ⟨by decide, ?_⟩)
  refine callF_of n2 ?_
  (refine ev ?_; try exact ⟨⟩)
  repeat (refine ⟨by decide, ?_⟩)
  exact ⟨_, _, _, .inr (.inr (.inr ⟨rfl, rfl, rfl⟩)), by simp [M3.L, G3.L, V3.L]⟩
 ·simp only [V3.L, M3.L, G3.L, evX, evY, evZ, forall_const, implies_true, initE, stepF, D.clean, mvF, moF, tkF, shF, ariF, ciF, catF, scF, ebF, eqF, eqOk, eqPr, enF, notF, ngF, cvF, csF, csbF, lenF, lenSF, ixF, iaF, PX.slot, iaAF, faF, ldF, D.mem, stF, bxF, mkSF, boundF, fldF, ixAF, mmF2, D.plain, D.isPure, optAll, D.dull, callVF, splice, D.cells, D.one, sets, resT, D.flat, D.flat0, D.simple, Nat.reduceBNe, Nat.reduceLT, reduceIte, Nat.reduceEqDiff, Nat.reduceAdd, Nat.reduceMul, Nat.reduceSub, Nat.reduceLeDiff, Int.reduceToNat, Int.reduceLT, Int.reduceLE, Int.reduceEq, Int.reduceNeg, Int.reduceSub, Int.reduceAdd, Int.reduceMul, stG_own]
  by_cases hok : okS 3 3 S
  ·rw [show fixR S K = _ from if_pos hok]
   rw [show solD 3 3 S = _ from if_pos hok] at hS
   refine callF_of hS ?_
   (refine ev ?_; try exact ⟨⟩)
   refine ⟨fun h => absurd h (by split <;> decide), fun _ => ?_⟩
   refine callF_of hK ?_
   (refine ev ?_; try exact ⟨⟩)
   rw [hN]
   refine loopF_of (fun E => ∃ k : Nat, k ≤ N ∧ E = [(2, .box true [.str [], .str [], .str []]), (3, .own true 30 k (fixK K k)), (12, .sl 3 (strs 3 (solV S 3))), (76, matD N 3 (kerM K 3)), (77, .int .i64 N), (78, .int .i64 k)])
    (fun E => match lk E 78 with | .int _ i => N - i.toNat | _ => 0) ⟨0, Nat.zero_le _, rfl⟩ ?_
   rintro _ ⟨k, hk, rfl⟩
   (refine ev ?_; try exact ⟨⟩)
   refine ⟨fun h3 => ?_, fun h3 => ?_⟩
   ·have hkN : k < N := by omega
    have hv := vv k
    simp only [V3.L] at hv
    refine ⟨⟨by omega, by omega, by rw [rowsD_len]; omega⟩, ?_⟩
    rw [ldC_rowsD]
    refine ⟨hkN, ?_⟩
    simp only [strs3, evX, evY, evZ, forall_const, implies_true, initE, stepF, D.clean, mvF, moF, tkF, shF, ariF, ciF, catF, scF, ebF, eqF, eqOk, eqPr, enF, notF, ngF, cvF, csF, csbF, lenF, lenSF, ixF, iaF, PX.slot, iaAF, faF, ldF, D.mem, stF, bxF, mkSF, boundF, fldF, ixAF, mmF2, D.plain, D.isPure, optAll, D.dull, callVF, splice, D.cells, D.one, sets, resT, D.flat, D.flat0, D.simple, Nat.reduceBNe, Nat.reduceLT, reduceIte, Nat.reduceEqDiff, Nat.reduceAdd, Nat.reduceMul, Nat.reduceSub, Nat.reduceLeDiff, Int.reduceToNat, Int.reduceLT, Int.reduceLE, Int.reduceEq, Int.reduceNeg, Int.reduceSub, Int.reduceAdd, Int.reduceMul, stG_own]
    repeat (refine ⟨by decide, ?_⟩)
    refine callF_of hv ?_
    (refine ev ?_; try exact ⟨⟩)
    have hl := fixK_len K k
    exact ⟨by omega, by omega, by omega, ⟨k + 1, by omega, by rw [fixK_succ]; rfl, by simp⟩, by omega⟩
   ·obtain rfl : k = N := by omega
    simp only [strs3, evX, evY, evZ, forall_const, implies_true, initE, stepF, D.clean, mvF, moF, tkF, shF, ariF, ciF, catF, scF, ebF, eqF, eqOk, eqPr, enF, notF, ngF, cvF, csF, csbF, lenF, lenSF, ixF, iaF, PX.slot, iaAF, faF, ldF, D.mem, stF, bxF, mkSF, boundF, fldF, ixAF, mmF2, D.plain, D.isPure, optAll, D.dull, callVF, splice, D.cells, D.one, sets, resT, D.flat, D.flat0, D.simple, Nat.reduceBNe, Nat.reduceLT, reduceIte, Nat.reduceEqDiff, Nat.reduceAdd, Nat.reduceMul, Nat.reduceSub, Nat.reduceLeDiff, Int.reduceToNat, Int.reduceLT, Int.reduceLE, Int.reduceEq, Int.reduceNeg, Int.reduceSub, Int.reduceAdd, Int.reduceMul, stG_own]
    repeat (refine ⟨by decide, ?_⟩)
    refine callF_of pl ?_
    (refine ev ?_; try exact ⟨⟩)
    rfl
  ·rw [show fixR S K = _ from if_neg hok]
   rw [show solD 3 3 S = _ from if_neg hok] at hS
   refine callF_of hS ?_
   (refine ev ?_; try exact ⟨⟩)
   all_goals rfl
end Go.Proofs

/-
 AFFINE: Translation, Shear; the law's vectors and plans, printed by tools/aff5.py. Own work.
-/
namespace Go.Proofs
open Go Go.Pi Go.RowKit Go.Shelf Go.Ar Go.Mx

theorem Tryz.afirst2 (u v : V3) (h : u.rd 200) (h' : v.rd 200) : Con Tryz.prog Tryz.L 74 [.sl 2 [.str (rt u.x), .str (rt u.y), .str (rt u.z), .str (rt v.x), .str (rt v.y), .str (rt v.z)]] (.int .i64 0) := by
 have fi := Tryz.tfirst [u.t, v.t] (by simp) (all2.2 ⟨V3.t_sz h (by decide), V3.t_sz h' (by decide)⟩)
 rw [chk_t (all2.2 ⟨(V3.t_ok u).2 h, (V3.t_ok v).2 h'⟩)] at fi
 exact fi
/-- the rows of a shear -/
def shG (n d : V3) : G3 := ⟨G3.one.a.add (n.mul d.x), G3.one.b.add (n.mul d.y), G3.one.c.add (n.mul d.z)⟩
set_option maxHeartbeats 4000000 in
theorem Tryz.aShear (n d : V3) (hn : n.rd 90) (hd : d.rd 90) (h0 : n.dot d = 0) : Con Tryz.prog Tryz.L 28 [.agg n.L, .agg d.L] (.tup [.agg (M3.mk (shG n d) V3.zero).L, .int .i64 0]) := by
 have fi := Tryz.afirst2 n d (V3.rd_mono hn (by decide)) (V3.rd_mono hd (by decide))
 have on := Tryz.aof n
 have od := Tryz.aof d
 have dt := Tryz.adot n d hn hd (by decide)
 rw [h0, rt0] at dt
 have un := Tryz.aunit
 have hm := fun (q : Rat) (hq : rd q ≤ 90) => V3.rd_mulq hn hq
 have t0 := Tryz.atimes n d.x hn (by have := hd.1; omega) (by decide)
 have t1 := Tryz.atimes n d.y hn (by have := hd.2.1; omega) (by decide)
 have t2 := Tryz.atimes n d.z hn (by have := hd.2.2; omega) (by decide)
 have a0 := Tryz.aadd G3.one.a (n.mul d.x) G3.rd_one.1 (hm _ hd.1) (by decide) (by decide)
 have a1 := Tryz.aadd G3.one.b (n.mul d.y) G3.rd_one.2.1 (hm _ hd.2.1) (by decide) (by decide)
 have a2 := Tryz.aadd G3.one.c (n.mul d.z) G3.rd_one.2.2 (hm _ hd.2.2) (by decide) (by decide)
 have hG : (shG n d).rd 200 := by
  have key : ∀ (e : V3) (q : Rat), e.rd 1 → rd q ≤ 90 → (e.add (n.mul q)).rd 200 := fun e q he hq => by
   have h := hm q hq
   exact ⟨by have := rd_add he.1 h.1; show rd (_ + _) ≤ _; omega, by have := rd_add he.2.1 h.2.1; show rd (_ + _) ≤ _; omega, by have := rd_add he.2.2 h.2.2; show rd (_ + _) ≤ _; omega⟩
  exact ⟨key _ _ G3.rd_one.1 hd.1, key _ _ G3.rd_one.2.1 hd.2.1, key _ _ G3.rd_one.2.2 hd.2.2⟩
 have ma := Tryz.amade (shG n d) V3.zero hG (V3.rd_mono V3.rd_zero (by decide))
 have hz : V3.zero.L = [.str [48], .str [48], .str [48]] := by simp only [V3.L, V3.zero, rt0]
 rw [hz] at ma
 have hz2 : (M3.mk (shG n d) V3.zero).L = (G3.L (shG n d)) ++ V3.L V3.zero := rfl
 rw [hz2, hz] at ma ⊢
 have e0 : (shG n d).a = G3.one.a.add (n.mul d.x) := rfl
 have e1 : (shG n d).b = G3.one.b.add (n.mul d.y) := rfl
 have e2 : (shG n d).c = G3.one.c.add (n.mul d.z) := rfl
 generalize shG n d = G at *
 rw [← e0] at a0; rw [← e1] at a1; rw [← e2] at a2
 clear e0 e1 e2 hG
 generalize G3.one = O at *
 refine rule28 Tryz.hL rfl rfl rfl ?_
 simp only [V3.L, G3.L, M3.L, List.cons_append, List.nil_append, pc28, rs28, oU, oC, evX, evY, evZ, forall_const, implies_true, initE, stepF, D.clean, mvF, moF, tkF, shF, ariF, ciF, catF, scF, ebF, eqF, eqOk, eqPr, enF, notF, ngF, cvF, csF, csbF, lenF, lenSF, ixF, iaF, PX.slot, iaAF, faF, ldF, D.mem, stF, bxF, mkSF, boundF, fldF, ixAF, mmF2, D.plain, D.isPure, optAll, D.dull, callVF, splice, D.cells, D.one, sets, resT, D.flat, D.flat0, D.simple, Nat.reduceBNe, Nat.reduceLT, reduceIte, Nat.reduceEqDiff, Nat.reduceAdd, Nat.reduceMul, Nat.reduceSub, Nat.reduceLeDiff, Int.reduceToNat, Int.reduceLT, Int.reduceLE, Int.reduceEq, Int.reduceNeg, Int.reduceSub, Int.reduceAdd, Int.reduceMul, stG_own] at fi on od dt un t0 t1 t2 a0 a1 a2 ma ⊢
 repeat (refine ⟨by decide, ?_⟩)
 refine callF_of fi ?_
 (refine ev ?_; try exact ⟨⟩)
 repeat (refine ⟨by decide, ?_⟩)
 refine callF_of on ?_
 (refine ev ?_; try exact ⟨⟩)
 repeat (refine ⟨by decide, ?_⟩)
 refine callF_of od ?_
 (refine ev ?_; try exact ⟨⟩)
 repeat (refine ⟨by decide, ?_⟩)
 refine callF_of dt ?_
 (refine ev ?_; try exact ⟨⟩)
 repeat (refine ⟨by decide, ?_⟩)
 refine callF_of un ?_
 (refine ev ?_; try exact ⟨⟩)
 refine loopF_of (fun E => ∃ (p : List D) (i : Int), ((i = 0 ∧ p = [.str (rt O.a.x), .str (rt O.a.y), .str (rt O.a.z), .str (rt O.b.x), .str (rt O.b.y), .str (rt O.b.z), .str (rt O.c.x), .str (rt O.c.y), .str (rt O.c.z)]) ∨ (i = 1 ∧ p = [.str (rt G.a.x), .str (rt G.a.y), .str (rt G.a.z), .str (rt O.b.x), .str (rt O.b.y), .str (rt O.b.z), .str (rt O.c.x), .str (rt O.c.y), .str (rt O.c.z)]) ∨ (i = 2 ∧ p = [.str (rt G.a.x), .str (rt G.a.y), .str (rt G.a.z), .str (rt G.b.x), .str (rt G.b.y), .str (rt G.b.z), .str (rt O.c.x), .str (rt O.c.y), .str (rt O.c.z)]) ∨ (i = 3 ∧ p = [.str (rt G.a.x), .str (rt G.a.y), .str (rt G.a.z), .str (rt G.b.x), .str (rt G.b.y), .str (rt G.b.z), .str (rt G.c.x), .str (rt G.c.y), .str (rt G.c.z)])) ∧ E = [(4, .box true [.str [], .str [], .str [], .str [], .str [], .str [], .str [], .str [], .str [], .str [], .str [], .str []]), (7, .box true n.L), (8, .box true d.L), (9, .box true p), (29, .int .i64 i)])
  (fun E => match lk E 29 with | .int _ i => (3 - i).toNat | _ => 0) ⟨_, _, .inl ⟨rfl, rfl⟩, by simp [V3.L]⟩ ?_
 rintro _ ⟨p, i, hp, rfl⟩
 rcases hp with ⟨rfl, rfl⟩ | ⟨rfl, rfl⟩ | ⟨rfl, rfl⟩ | ⟨rfl, rfl⟩
 ·simp only [V3.L, evX, evY, evZ, forall_const, implies_true, initE, stepF, D.clean, mvF, moF, tkF, shF, ariF, ciF, catF, scF, ebF, eqF, eqOk, eqPr, enF, notF, ngF, cvF, csF, csbF, lenF, lenSF, ixF, iaF, PX.slot, iaAF, faF, ldF, D.mem, stF, bxF, mkSF, boundF, fldF, ixAF, mmF2, D.plain, D.isPure, optAll, D.dull, callVF, splice, D.cells, D.one, sets, resT, D.flat, D.flat0, D.simple, Nat.reduceBNe, Nat.reduceLT, reduceIte, Nat.reduceEqDiff, Nat.reduceAdd, Nat.reduceMul, Nat.reduceSub, Nat.reduceLeDiff, Int.reduceToNat, Int.reduceLT, Int.reduceLE, Int.reduceEq, Int.reduceNeg, Int.reduceSub, Int.reduceAdd, Int.reduceMul, stG_own]
  repeat (refine ⟨by decide, ?_⟩)
  refine callF_of t0 ?_
  (refine ev ?_; try exact ⟨⟩)
  refine callF_of a0 ?_
  (refine ev ?_; try exact ⟨⟩)
  repeat (refine ⟨by decide, ?_⟩)
  exact ⟨_, _, .inr (.inl ⟨rfl, rfl⟩), by simp [V3.L]⟩
 ·simp only [V3.L, evX, evY, evZ, forall_const, implies_true, initE, stepF, D.clean, mvF, moF, tkF, shF, ariF, ciF, catF, scF, ebF, eqF, eqOk, eqPr, enF, notF, ngF, cvF, csF, csbF, lenF, lenSF, ixF, iaF, PX.slot, iaAF, faF, ldF, D.mem, stF, bxF, mkSF, boundF, fldF, ixAF, mmF2, D.plain, D.isPure, optAll, D.dull, callVF, splice, D.cells, D.one, sets, resT, D.flat, D.flat0, D.simple, Nat.reduceBNe, Nat.reduceLT, reduceIte, Nat.reduceEqDiff, Nat.reduceAdd, Nat.reduceMul, Nat.reduceSub, Nat.reduceLeDiff, Int.reduceToNat, Int.reduceLT, Int.reduceLE, Int.reduceEq, Int.reduceNeg, Int.reduceSub, Int.reduceAdd, Int.reduceMul, stG_own]
  repeat (refine ⟨by decide, ?_⟩)
  refine callF_of t1 ?_
  (refine ev ?_; try exact ⟨⟩)
  refine callF_of a1 ?_
  (refine ev ?_; try exact ⟨⟩)
  repeat (refine ⟨by decide, ?_⟩)
  exact ⟨_, _, .inr (.inr (.inl ⟨rfl, rfl⟩)), by simp [V3.L]⟩
 ·simp only [V3.L, evX, evY, evZ, forall_const, implies_true, initE, stepF, D.clean, mvF, moF, tkF, shF, ariF, ciF, catF, scF, ebF, eqF, eqOk, eqPr, enF, notF, ngF, cvF, csF, csbF, lenF, lenSF, ixF, iaF, PX.slot, iaAF, faF, ldF, D.mem, stF, bxF, mkSF, boundF, fldF, ixAF, mmF2, D.plain, D.isPure, optAll, D.dull, callVF, splice, D.cells, D.one, sets, resT, D.flat, D.flat0, D.simple, Nat.reduceBNe, Nat.reduceLT, reduceIte, Nat.reduceEqDiff, Nat.reduceAdd, Nat.reduceMul, Nat.reduceSub, Nat.reduceLeDiff, Int.reduceToNat, Int.reduceLT, Int.reduceLE, Int.reduceEq, Int.reduceNeg, Int.reduceSub, Int.reduceAdd, Int.reduceMul, stG_own]
  repeat (refine ⟨by decide, ?_⟩)
  refine callF_of t2 ?_
  (refine ev ?_; try exact ⟨⟩)
  refine callF_of a2 ?_
  (refine ev ?_; try exact ⟨⟩)
  repeat (refine ⟨by decide, ?_⟩)
  exact ⟨_, _, .inr (.inr (.inr ⟨rfl, rfl⟩)), by simp [V3.L]⟩
 ·simp only [V3.L, evX, evY, evZ, forall_const, implies_true, initE, stepF, D.clean, mvF, moF, tkF, shF, ariF, ciF, catF, scF, ebF, eqF, eqOk, eqPr, enF, notF, ngF, cvF, csF, csbF, lenF, lenSF, ixF, iaF, PX.slot, iaAF, faF, ldF, D.mem, stF, bxF, mkSF, boundF, fldF, ixAF, mmF2, D.plain, D.isPure, optAll, D.dull, callVF, splice, D.cells, D.one, sets, resT, D.flat, D.flat0, D.simple, Nat.reduceBNe, Nat.reduceLT, reduceIte, Nat.reduceEqDiff, Nat.reduceAdd, Nat.reduceMul, Nat.reduceSub, Nat.reduceLeDiff, Int.reduceToNat, Int.reduceLT, Int.reduceLE, Int.reduceEq, Int.reduceNeg, Int.reduceSub, Int.reduceAdd, Int.reduceMul, stG_own]
  refine callF_of ma ?_
  (refine ev ?_; try exact ⟨⟩)
  rfl
theorem sf_int (z : Int) (h : z.natAbs ≤ 1000000000) : SF (z : Rat) := ⟨h, by show (1 : Nat) ≤ _; decide⟩
theorem div1 (z : Int) : (z : Rat) / ((1 : Int) : Rat) = (z : Rat) := by
 rw [Rat.div_def]
 have : ((1 : Int) : Rat)⁻¹ = 1 := by decide +kernel
 rw [this, Rat.mul_one]
set_option maxHeartbeats 2000000 in
theorem Tryz.avec (x y z : Int) (hx : x.natAbs ≤ 1000000000) (hy : y.natAbs ≤ 1000000000) (hz : z.natAbs ≤ 1000000000) : Con Tryz.prog Tryz.L 22 [.int .i64 x, .int .i64 y, .int .i64 z] (.agg (V3.L ⟨(x : Rat), (y : Rat), (z : Rat)⟩)) := by
 have mx := Tryz.fmake x 1 (by decide) (by omega) (by decide)
 rw [div1] at mx
 have my := Tryz.fmake y 1 (by decide) (by omega) (by decide)
 rw [div1] at my
 have mz := Tryz.fmake z 1 (by decide) (by omega) (by decide)
 rw [div1] at mz
 have ve := Tryz.wvector ⟨(x : Rat), (y : Rat), (z : Rat)⟩ ⟨sf_int x hx, sf_int y hy, sf_int z hz⟩
 refine rule22 Tryz.hL rfl rfl rfl ?_
 simp only [V3.L, G3.L, M3.L, fD, V3.F, pc22, rs22, oU, oC, evX, evY, evZ, forall_const, implies_true, initE, stepF, D.clean, mvF, moF, tkF, shF, ariF, ciF, catF, scF, ebF, eqF, eqOk, eqPr, enF, notF, ngF, cvF, csF, csbF, lenF, lenSF, ixF, iaF, PX.slot, iaAF, faF, ldF, D.mem, stF, bxF, mkSF, boundF, fldF, ixAF, mmF2, D.plain, D.isPure, optAll, D.dull, callVF, splice, D.cells, D.one, sets, resT, D.flat, D.flat0, D.simple, Nat.reduceBNe, Nat.reduceLT, reduceIte, Nat.reduceEqDiff, Nat.reduceAdd, Nat.reduceMul, Nat.reduceSub, Nat.reduceLeDiff, Int.reduceToNat, Int.reduceLT, Int.reduceLE, Int.reduceEq, Int.reduceNeg, Int.reduceSub, Int.reduceAdd, Int.reduceMul, stG_own] at mx my mz ve ⊢
 repeat (refine ⟨by decide, ?_⟩)
 refine callF_of mx ?_
 (refine ev ?_; try exact ⟨⟩)
 repeat (refine ⟨by decide, ?_⟩)
 refine callF_of my ?_
 (refine ev ?_; try exact ⟨⟩)
 repeat (refine ⟨by decide, ?_⟩)
 refine callF_of mz ?_
 (refine ev ?_; try exact ⟨⟩)
 repeat (refine ⟨by decide, ?_⟩)
 refine callF_of ve ?_
 (refine ev ?_; try exact ⟨⟩)
 all_goals rfl
end Go.Proofs

/-
 AFFINE: plans, printed by tools/aff6.py. Own work.
-/
namespace Go.Proofs
open Go Go.Pi Go.RowKit Go.Shelf Go.Ar Go.Mx

/-- a number of a plan -/
def vq (h : Bool) (a : Int) : Rat := ((a.tmod 7 : Int) : Rat) / (((if h then 2 else 1 : Int)) : Rat)
theorem tmod7 (z : Int) : -6 ≤ z.tmod 7 ∧ z.tmod 7 ≤ 6 := by
 have h1 := Int.tmod_lt_of_pos z (show (0 : Int) < 7 by decide)
 have h2 := Int.tmod_lt_of_pos (-z) (show (0 : Int) < 7 by decide)
 rw [Int.neg_tmod] at h2
 omega
theorem vq_cb (h : Bool) (a : Int) : CB 2 12 (vq h a) := by
 have ht := tmod7 a
 unfold vq
 generalize a.tmod 7 = z at *
 cases h
 ·refine ⟨2 * z, by omega, ?_⟩
  show (z : Rat) / ((1 : Int) : Rat) * ((2 : Nat) : Rat) = _
  rw [div1, Rat.intCast_mul]
  have : ((2 : Nat) : Rat) = 2 := rfl
  have e2 : ((2 : Int) : Rat) = 2 := rfl
  rw [this, e2]; grind
 ·refine ⟨z, by omega, ?_⟩
  show (z : Rat) / ((2 : Int) : Rat) * ((2 : Nat) : Rat) = _
  have h3 : ((2 : Int) : Rat) * ((2 : Int) : Rat)⁻¹ = 1 := Rat.mul_inv_cancel _ (by decide +kernel)
  have : ((2 : Nat) : Rat) = ((2 : Int) : Rat) := rfl
  rw [this, Rat.div_def, Rat.mul_assoc, Rat.mul_comm _ ((2 : Int) : Rat), h3, Rat.mul_one]
def i8 (z : Int) : Prop := -128 ≤ z ∧ z ≤ 127
set_option maxHeartbeats 2000000 in
theorem Tryz.lvec (a b c : Int) (h : Bool) (ha : i8 a) (hb : i8 b) (hc : i8 c) : Con Tryz.prog Tryz.L 19 [.agg [.int .i8 a, .int .i8 b, .int .i8 c], .bool h] (.agg (V3.F ⟨vq h a, vq h b, vq h c⟩)) := by
 have ta := tmod7 a; have tb := tmod7 b; have tc := tmod7 c
 obtain ⟨ha1, ha2⟩ := ha; obtain ⟨hb1, hb2⟩ := hb; obtain ⟨hc1, hc2⟩ := hc
 have hd : (if h then 2 else 1 : Int).natAbs ≤ 2 ∧ (if h then 2 else 1 : Int) ≠ 0 := by cases h <;> decide
 have m1 := Tryz.fmake (a.tmod 7) (if h then 2 else 1) hd.2 (by omega) (by omega)
 have m2 := Tryz.fmake (b.tmod 7) (if h then 2 else 1) hd.2 (by omega) (by omega)
 have m3 := Tryz.fmake (c.tmod 7) (if h then 2 else 1) hd.2 (by omega) (by omega)
 have m1 : Con Tryz.prog Tryz.L 39 [.int .i64 (a.tmod 7), .int .i64 (if h then 2 else 1)] (fD (vq h a)) := m1
 have m2 : Con Tryz.prog Tryz.L 39 [.int .i64 (b.tmod 7), .int .i64 (if h then 2 else 1)] (fD (vq h b)) := m2
 have m3 : Con Tryz.prog Tryz.L 39 [.int .i64 (c.tmod 7), .int .i64 (if h then 2 else 1)] (fD (vq h c)) := m3
 generalize vq h a = qa at *
 generalize vq h b = qb at *
 generalize vq h c = qc at *
 refine rule19 Tryz.hL rfl rfl rfl ?_
 cases h
 all_goals
  simp only [fD, V3.F, reduceIte, pc19, rs19, oU, oC, evX, evY, evZ, forall_const, implies_true, initE, stepF, D.clean, mvF, moF, tkF, shF, ariF, ciF, catF, scF, ebF, eqF, eqOk, eqPr, enF, notF, ngF, cvF, csF, csbF, lenF, lenSF, ixF, iaF, PX.slot, iaAF, faF, ldF, D.mem, stF, bxF, mkSF, boundF, fldF, ixAF, mmF2, D.plain, D.isPure, optAll, D.dull, callVF, splice, D.cells, D.one, sets, resT, D.flat, D.flat0, D.simple, Nat.reduceBNe, Nat.reduceLT, reduceIte, Nat.reduceEqDiff, Nat.reduceAdd, Nat.reduceMul, Nat.reduceSub, Nat.reduceLeDiff, Int.reduceToNat, Int.reduceLT, Int.reduceLE, Int.reduceEq, Int.reduceNeg, Int.reduceSub, Int.reduceAdd, Int.reduceMul, stG_own, Bool.false_eq_true] at m1 m2 m3 ⊢
  repeat (refine ⟨by decide, ?_⟩)
  refine ⟨by omega, ?_⟩
  refine callF_of m1 ?_
  (refine ev ?_; try exact ⟨⟩)
  repeat (refine ⟨by decide, ?_⟩)
  refine ⟨by omega, ?_⟩
  refine callF_of m2 ?_
  (refine ev ?_; try exact ⟨⟩)
  repeat (refine ⟨by decide, ?_⟩)
  refine ⟨by omega, ?_⟩
  refine callF_of m3 ?_
  (refine ev ?_; try exact ⟨⟩)
  rfl
/-- a plan -/
structure Pl where
 r : Nat → Int
 h : Bool
def Pl.ok (p : Pl) : Prop := ∀ i, i < 12 → i8 (p.r i)
def Pl.D (p : Pl) : List D := [.int .i8 (p.r 0), .int .i8 (p.r 1), .int .i8 (p.r 2), .int .i8 (p.r 3), .int .i8 (p.r 4), .int .i8 (p.r 5), .int .i8 (p.r 6), .int .i8 (p.r 7), .int .i8 (p.r 8), .int .i8 (p.r 9), .int .i8 (p.r 10), .int .i8 (p.r 11), .bool p.h]
def Pl.v (p : Pl) (i : Nat) : V3 := ⟨vq p.h (p.r i), vq p.h (p.r (i + 1)), vq p.h (p.r (i + 2))⟩
def Pl.m (p : Pl) : M3 := ⟨⟨p.v 0, p.v 3, p.v 6⟩, p.v 9⟩
theorem Pl.cb (p : Pl) (i : Nat) : (p.v i).CB 2 12 := ⟨vq_cb _ _, vq_cb _ _, vq_cb _ _⟩
set_option maxHeartbeats 4000000 in
theorem Tryz.lmodel (p : Pl) (hp : p.ok) : Con Tryz.prog Tryz.L 17 [.agg p.D] (.agg p.m.F) := by
 have v0 : Con Tryz.prog Tryz.L 19 [.agg [.int .i8 (p.r 0), .int .i8 (p.r 1), .int .i8 (p.r 2)], .bool p.h] (.agg (p.v 0).F) := Tryz.lvec (p.r 0) (p.r 1) (p.r 2) p.h (hp 0 (by decide)) (hp 1 (by decide)) (hp 2 (by decide))
 have v1 : Con Tryz.prog Tryz.L 19 [.agg [.int .i8 (p.r 3), .int .i8 (p.r 4), .int .i8 (p.r 5)], .bool p.h] (.agg (p.v 3).F) := Tryz.lvec (p.r 3) (p.r 4) (p.r 5) p.h (hp 3 (by decide)) (hp 4 (by decide)) (hp 5 (by decide))
 have v2 : Con Tryz.prog Tryz.L 19 [.agg [.int .i8 (p.r 6), .int .i8 (p.r 7), .int .i8 (p.r 8)], .bool p.h] (.agg (p.v 6).F) := Tryz.lvec (p.r 6) (p.r 7) (p.r 8) p.h (hp 6 (by decide)) (hp 7 (by decide)) (hp 8 (by decide))
 have v3 : Con Tryz.prog Tryz.L 19 [.agg [.int .i8 (p.r 9), .int .i8 (p.r 10), .int .i8 (p.r 11)], .bool p.h] (.agg (p.v 9).F) := Tryz.lvec (p.r 9) (p.r 10) (p.r 11) p.h (hp 9 (by decide)) (hp 10 (by decide)) (hp 11 (by decide))
 refine rule17 Tryz.hL rfl rfl rfl ?_
 simp only [Pl.D, M3.F, Pl.m, V3.F, pc17, rs17, oU, oC, evX, evY, evZ, forall_const, implies_true, initE, stepF, D.clean, mvF, moF, tkF, shF, ariF, ciF, catF, scF, ebF, eqF, eqOk, eqPr, enF, notF, ngF, cvF, csF, csbF, lenF, lenSF, ixF, iaF, PX.slot, iaAF, faF, ldF, D.mem, stF, bxF, mkSF, boundF, fldF, ixAF, mmF2, D.plain, D.isPure, optAll, D.dull, callVF, splice, D.cells, D.one, sets, resT, D.flat, D.flat0, D.simple, Nat.reduceBNe, Nat.reduceLT, reduceIte, Nat.reduceEqDiff, Nat.reduceAdd, Nat.reduceMul, Nat.reduceSub, Nat.reduceLeDiff, Int.reduceToNat, Int.reduceLT, Int.reduceLE, Int.reduceEq, Int.reduceNeg, Int.reduceSub, Int.reduceAdd, Int.reduceMul, stG_own] at v0 v1 v2 v3 ⊢
 refine loopF_of (fun E => ∃ (w : List D) (i : Int), ((i = 0 ∧ w = [.int .i64 0, .int .i64 0, .int .i64 0, .int .i64 0, .int .i64 0, .int .i64 0, .int .i64 0, .int .i64 0, .int .i64 0, .int .i64 0, .int .i64 0, .int .i64 0, .int .i64 0, .int .i64 0, .int .i64 0, .int .i64 0, .int .i64 0, .int .i64 0, .int .i64 0, .int .i64 0, .int .i64 0, .int .i64 0, .int .i64 0, .int .i64 0]) ∨ (i = 1 ∧ w = [.int .i64 ((p.v 0).x).num, .int .i64 (((p.v 0).x).den : Int), .int .i64 ((p.v 0).y).num, .int .i64 (((p.v 0).y).den : Int), .int .i64 ((p.v 0).z).num, .int .i64 (((p.v 0).z).den : Int), .int .i64 0, .int .i64 0, .int .i64 0, .int .i64 0, .int .i64 0, .int .i64 0, .int .i64 0, .int .i64 0, .int .i64 0, .int .i64 0, .int .i64 0, .int .i64 0, .int .i64 0, .int .i64 0, .int .i64 0, .int .i64 0, .int .i64 0, .int .i64 0]) ∨ (i = 2 ∧ w = [.int .i64 ((p.v 0).x).num, .int .i64 (((p.v 0).x).den : Int), .int .i64 ((p.v 0).y).num, .int .i64 (((p.v 0).y).den : Int), .int .i64 ((p.v 0).z).num, .int .i64 (((p.v 0).z).den : Int), .int .i64 ((p.v 3).x).num, .int .i64 (((p.v 3).x).den : Int), .int .i64 ((p.v 3).y).num, .int .i64 (((p.v 3).y).den : Int), .int .i64 ((p.v 3).z).num, .int .i64 (((p.v 3).z).den : Int), .int .i64 0, .int .i64 0, .int .i64 0, .int .i64 0, .int .i64 0, .int .i64 0, .int .i64 0, .int .i64 0, .int .i64 0, .int .i64 0, .int .i64 0, .int .i64 0]) ∨ (i = 3 ∧ w = [.int .i64 ((p.v 0).x).num, .int .i64 (((p.v 0).x).den : Int), .int .i64 ((p.v 0).y).num, .int .i64 (((p.v 0).y).den : Int), .int .i64 ((p.v 0).z).num, .int .i64 (((p.v 0).z).den : Int), .int .i64 ((p.v 3).x).num, .int .i64 (((p.v 3).x).den : Int), .int .i64 ((p.v 3).y).num, .int .i64 (((p.v 3).y).den : Int), .int .i64 ((p.v 3).z).num, .int .i64 (((p.v 3).z).den : Int), .int .i64 ((p.v 6).x).num, .int .i64 (((p.v 6).x).den : Int), .int .i64 ((p.v 6).y).num, .int .i64 (((p.v 6).y).den : Int), .int .i64 ((p.v 6).z).num, .int .i64 (((p.v 6).z).den : Int), .int .i64 0, .int .i64 0, .int .i64 0, .int .i64 0, .int .i64 0, .int .i64 0])) ∧ E = [(1, .box true p.D), (2, .box true [.int .i64 0, .int .i64 0, .int .i64 0, .int .i64 0, .int .i64 0, .int .i64 0, .int .i64 0, .int .i64 0, .int .i64 0, .int .i64 0, .int .i64 0, .int .i64 0, .int .i64 0, .int .i64 0, .int .i64 0, .int .i64 0, .int .i64 0, .int .i64 0, .int .i64 0, .int .i64 0, .int .i64 0, .int .i64 0, .int .i64 0, .int .i64 0]), (3, .box true w), (4, .int .i64 i)])
  (fun E => match lk E 4 with | .int _ i => (3 - i).toNat | _ => 0) ⟨_, _, .inl ⟨rfl, rfl⟩, by simp [Pl.D]⟩ ?_
 rintro _ ⟨w, i, hw, rfl⟩
 rcases hw with ⟨rfl, rfl⟩ | ⟨rfl, rfl⟩ | ⟨rfl, rfl⟩ | ⟨rfl, rfl⟩
 ·simp only [Pl.D, evX, evY, evZ, forall_const, implies_true, initE, stepF, D.clean, mvF, moF, tkF, shF, ariF, ciF, catF, scF, ebF, eqF, eqOk, eqPr, enF, notF, ngF, cvF, csF, csbF, lenF, lenSF, ixF, iaF, PX.slot, iaAF, faF, ldF, D.mem, stF, bxF, mkSF, boundF, fldF, ixAF, mmF2, D.plain, D.isPure, optAll, D.dull, callVF, splice, D.cells, D.one, sets, resT, D.flat, D.flat0, D.simple, Nat.reduceBNe, Nat.reduceLT, reduceIte, Nat.reduceEqDiff, Nat.reduceAdd, Nat.reduceMul, Nat.reduceSub, Nat.reduceLeDiff, Int.reduceToNat, Int.reduceLT, Int.reduceLE, Int.reduceEq, Int.reduceNeg, Int.reduceSub, Int.reduceAdd, Int.reduceMul, stG_own]
  repeat (refine ⟨by decide, ?_⟩)
  refine callF_of v0 ?_
  (refine ev ?_; try exact ⟨⟩)
  repeat (refine ⟨by decide, ?_⟩)
  exact ⟨_, _, .inr (.inl ⟨rfl, rfl⟩), by simp [Pl.D]⟩
 ·simp only [Pl.D, evX, evY, evZ, forall_const, implies_true, initE, stepF, D.clean, mvF, moF, tkF, shF, ariF, ciF, catF, scF, ebF, eqF, eqOk, eqPr, enF, notF, ngF, cvF, csF, csbF, lenF, lenSF, ixF, iaF, PX.slot, iaAF, faF, ldF, D.mem, stF, bxF, mkSF, boundF, fldF, ixAF, mmF2, D.plain, D.isPure, optAll, D.dull, callVF, splice, D.cells, D.one, sets, resT, D.flat, D.flat0, D.simple, Nat.reduceBNe, Nat.reduceLT, reduceIte, Nat.reduceEqDiff, Nat.reduceAdd, Nat.reduceMul, Nat.reduceSub, Nat.reduceLeDiff, Int.reduceToNat, Int.reduceLT, Int.reduceLE, Int.reduceEq, Int.reduceNeg, Int.reduceSub, Int.reduceAdd, Int.reduceMul, stG_own]
  repeat (refine ⟨by decide, ?_⟩)
  refine callF_of v1 ?_
  (refine ev ?_; try exact ⟨⟩)
  repeat (refine ⟨by decide, ?_⟩)
  exact ⟨_, _, .inr (.inr (.inl ⟨rfl, rfl⟩)), by simp [Pl.D]⟩
 ·simp only [Pl.D, evX, evY, evZ, forall_const, implies_true, initE, stepF, D.clean, mvF, moF, tkF, shF, ariF, ciF, catF, scF, ebF, eqF, eqOk, eqPr, enF, notF, ngF, cvF, csF, csbF, lenF, lenSF, ixF, iaF, PX.slot, iaAF, faF, ldF, D.mem, stF, bxF, mkSF, boundF, fldF, ixAF, mmF2, D.plain, D.isPure, optAll, D.dull, callVF, splice, D.cells, D.one, sets, resT, D.flat, D.flat0, D.simple, Nat.reduceBNe, Nat.reduceLT, reduceIte, Nat.reduceEqDiff, Nat.reduceAdd, Nat.reduceMul, Nat.reduceSub, Nat.reduceLeDiff, Int.reduceToNat, Int.reduceLT, Int.reduceLE, Int.reduceEq, Int.reduceNeg, Int.reduceSub, Int.reduceAdd, Int.reduceMul, stG_own]
  repeat (refine ⟨by decide, ?_⟩)
  refine callF_of v2 ?_
  (refine ev ?_; try exact ⟨⟩)
  repeat (refine ⟨by decide, ?_⟩)
  exact ⟨_, _, .inr (.inr (.inr ⟨rfl, rfl⟩)), by simp [Pl.D]⟩
 ·simp only [Pl.D, evX, evY, evZ, forall_const, implies_true, initE, stepF, D.clean, mvF, moF, tkF, shF, ariF, ciF, catF, scF, ebF, eqF, eqOk, eqPr, enF, notF, ngF, cvF, csF, csbF, lenF, lenSF, ixF, iaF, PX.slot, iaAF, faF, ldF, D.mem, stF, bxF, mkSF, boundF, fldF, ixAF, mmF2, D.plain, D.isPure, optAll, D.dull, callVF, splice, D.cells, D.one, sets, resT, D.flat, D.flat0, D.simple, Nat.reduceBNe, Nat.reduceLT, reduceIte, Nat.reduceEqDiff, Nat.reduceAdd, Nat.reduceMul, Nat.reduceSub, Nat.reduceLeDiff, Int.reduceToNat, Int.reduceLT, Int.reduceLE, Int.reduceEq, Int.reduceNeg, Int.reduceSub, Int.reduceAdd, Int.reduceMul, stG_own]
  refine callF_of v3 ?_
  (refine ev ?_; try exact ⟨⟩)
  rfl
theorem V3.sf2 {v : V3} (h : v.CB 2 12) : v.SF := h.sf (by decide) (by decide) (by decide)
theorem Pl.sf (p : Pl) : p.m.SF := ⟨V3.sf2 (p.cb 0), V3.sf2 (p.cb 3), V3.sf2 (p.cb 6), V3.sf2 (p.cb 9)⟩
set_option maxHeartbeats 2000000 in
theorem Tryz.lmake (p : Pl) (hp : p.ok) : Con Tryz.prog Tryz.L 15 [.agg p.D] (.agg p.m.L) := by
 have mo := Tryz.lmodel p hp
 have af := Tryz.waffine p.m p.sf
 refine rule15 Tryz.hL rfl rfl rfl ?_
 simp only [Pl.D, M3.F, M3.L, pc15, rs15, oU, oC, evX, evY, evZ, forall_const, implies_true, initE, stepF, D.clean, mvF, moF, tkF, shF, ariF, ciF, catF, scF, ebF, eqF, eqOk, eqPr, enF, notF, ngF, cvF, csF, csbF, lenF, lenSF, ixF, iaF, PX.slot, iaAF, faF, ldF, D.mem, stF, bxF, mkSF, boundF, fldF, ixAF, mmF2, D.plain, D.isPure, optAll, D.dull, callVF, splice, D.cells, D.one, sets, resT, D.flat, D.flat0, D.simple, Nat.reduceBNe, Nat.reduceLT, reduceIte, Nat.reduceEqDiff, Nat.reduceAdd, Nat.reduceMul, Nat.reduceSub, Nat.reduceLeDiff, Int.reduceToNat, Int.reduceLT, Int.reduceLE, Int.reduceEq, Int.reduceNeg, Int.reduceSub, Int.reduceAdd, Int.reduceMul, stG_own] at mo af ⊢
 repeat (refine ⟨by decide, ?_⟩)
 refine callF_of mo ?_
 (refine ev ?_; try exact ⟨⟩)
 repeat (refine ⟨by decide, ?_⟩)
 refine callF_of af ?_
 (refine ev ?_; try exact ⟨⟩)
 all_goals rfl
/-- digits of numbers with a common denominator -/
theorem CB.rd {D k : Nat} {q : Rat} (h : CB D k q) (h0 : 0 < D) (h1 : D ≤ 1000000000) (h2 : k ≤ 1000000000) : rd q ≤ 10 := by
 obtain ⟨u, h3, h4⟩ := h
 have : NB 9 9 q := ⟨u, D, h0, h1, Nat.le_trans h3 h2, h4⟩
 have := rd_nb this
 omega
theorem V3.CB.rd {D k : Nat} {v : V3} (h : v.CB D k) (h0 : 0 < D) (h1 : D ≤ 1000000000) (h2 : k ≤ 1000000000) : v.rd 10 := ⟨h.1.rd h0 h1 h2, h.2.1.rd h0 h1 h2, h.2.2.rd h0 h1 h2⟩
theorem Pl.rd (p : Pl) : p.m.rd 10 := ⟨⟨(p.cb 0).rd (by decide) (by decide) (by decide), (p.cb 3).rd (by decide) (by decide) (by decide), (p.cb 6).rd (by decide) (by decide) (by decide)⟩, (p.cb 9).rd (by decide) (by decide) (by decide)⟩
end Go.Proofs

/-
 AFFINE: known() = true. Own work.
-/
namespace Go.Proofs
open Go Go.Pi Go.RowKit Go.Shelf Go.Ar Go.Mx

/-- the quarter turn of the examples -/
def turnM : M3 := ⟨⟨⟨0, -1, 0⟩, ⟨1, 0, 0⟩, ⟨0, 0, 1⟩⟩, ⟨2, 0, 0⟩⟩
theorem Tryz.lvecN (x y z : Int) (v : V3) (hx : x.natAbs ≤ 1000000000) (hy : y.natAbs ≤ 1000000000) (hz : z.natAbs ≤ 1000000000) (h1 : (x : Rat) = v.x) (h2 : (y : Rat) = v.y) (h3 : (z : Rat) = v.z) : Con Tryz.prog Tryz.L 22 [.int .i64 x, .int .i64 y, .int .i64 z] (.agg v.L) := by
 have h := Tryz.avec x y z hx hy hz
 rw [h1, h2, h3] at h
 exact h
theorem Tryz.lturn : Con Tryz.prog Tryz.L 57 [] (.agg turnM.L) := by
 have t1 := Tryz.lvecN 0 (-1) 0 turnM.g.a (by decide) (by decide) (by decide) (by decide +kernel) (by decide +kernel) (by decide +kernel)
 have t2 := Tryz.lvecN 1 0 0 turnM.g.b (by decide) (by decide) (by decide) (by decide +kernel) (by decide +kernel) (by decide +kernel)
 have t3 := Tryz.lvecN 0 0 1 turnM.g.c (by decide) (by decide) (by decide) (by decide +kernel) (by decide +kernel) (by decide +kernel)
 have t4 := Tryz.lvecN 2 0 0 turnM.s (by decide) (by decide) (by decide) (by decide +kernel) (by decide +kernel) (by decide +kernel)
 generalize turnM = m at *
 refine rule57 Tryz.hL rfl rfl rfl ?_
 simp only [V3.L, M3.L, pc57, rs57, oU, oC, evX, evY, evZ, forall_const, implies_true, initE, stepF, D.clean, mvF, moF, tkF, shF, ariF, ciF, catF, scF, ebF, eqF, eqOk, eqPr, enF, notF, ngF, cvF, csF, csbF, lenF, lenSF, ixF, iaF, PX.slot, iaAF, faF, ldF, D.mem, stF, bxF, mkSF, boundF, fldF, ixAF, mmF2, D.plain, D.isPure, optAll, D.dull, callVF, splice, D.cells, D.one, sets, resT, D.flat, D.flat0, D.simple, Nat.reduceBNe, Nat.reduceLT, reduceIte, Nat.reduceEqDiff, Nat.reduceAdd, Nat.reduceMul, Nat.reduceSub, Nat.reduceLeDiff, Int.reduceToNat, Int.reduceLT, Int.reduceLE, Int.reduceEq, Int.reduceNeg, Int.reduceSub, Int.reduceAdd, Int.reduceMul, stG_own] at t1 t2 t3 t4 ⊢
 refine callF_of t1 ?_
 (refine ev ?_; try exact ⟨⟩)
 refine callF_of t2 ?_
 (refine ev ?_; try exact ⟨⟩)
 refine callF_of t3 ?_
 (refine ev ?_; try exact ⟨⟩)
 refine callF_of t4 ?_
 (refine ev ?_; try exact ⟨⟩)
 rfl
/-! what Fixed needs -/
def M3.CB (D k : Nat) (m : M3) : Prop := m.g.a.CB D k ∧ m.g.b.CB D k ∧ m.g.c.CB D k ∧ m.s.CB D k
theorem V3.CB.at' {D k : Nat} {v : V3} (h : v.CB D k) (i : Nat) : Go.Proofs.CB D k (v.at' i) := by
 unfold V3.at'; split
 ·exact h.1
 ·split
  ·exact h.2.1
  ·exact h.2.2
theorem V3.CB.sub {D k l : Nat} {u v : V3} (h : u.CB D k) (h' : v.CB D l) : (u.sub v).CB D (k + l) := ⟨h.1.sub h'.1, h.2.1.sub h'.2.1, h.2.2.sub h'.2.2⟩
theorem cb20 : CB 2 2 0 := ⟨0, by decide, by decide +kernel⟩
theorem cb21 : CB 2 2 1 := ⟨2, by decide, by decide +kernel⟩
theorem M3.CB.fr {m : M3} (h : m.CB 2 12) (i : Nat) : (m.fr i).CB 2 14 := by
 have o : ∀ i, (G3.one.row i).CB 2 2 := fun i => by
  unfold G3.row; split
  ·exact ⟨cb21, cb20, cb20⟩
  ·split
   ·exact ⟨cb20, cb21, cb20⟩
   ·exact ⟨cb20, cb20, cb21⟩
 have r : (m.g.row i).CB 2 12 := by
  unfold G3.row; split
  ·exact h.1
  ·split
   ·exact h.2.1
   ·exact h.2.2.1
 exact r.sub (o i)
theorem M3.CB.rbs {m : M3} (h : m.CB 2 12) (w n : Nat) : RBs 2 3 n (wideM w m.fF fun i _ => m.fy i) := fun i _ => by
 refine ⟨2, by decide, by decide, fun j _ => ?_⟩
 unfold wideM
 split
 ·obtain ⟨u, h1, h2⟩ := (h.fr i).at' j
  exact ⟨u, Nat.le_trans h1 (by decide), h2⟩
 ·obtain ⟨u, h1, h2⟩ := (h.2.2.2.at' i).neg
  exact ⟨u, Nat.le_trans h1 (by decide), h2⟩
theorem M3.CB.rbF {m : M3} (h : m.CB 2 12) (n : Nat) : RBs 2 3 n m.fF := fun i _ => by
 refine ⟨2, by decide, by decide, fun j _ => ?_⟩
 obtain ⟨u, h1, h2⟩ := (h.fr i).at' j
 exact ⟨u, Nat.le_trans h1 (by decide), h2⟩
theorem M3.CB.rd {m : M3} (h : m.CB 2 12) : m.rd 10 := ⟨⟨h.1.rd (by decide) (by decide) (by decide), h.2.1.rd (by decide) (by decide) (by decide), h.2.2.1.rd (by decide) (by decide) (by decide)⟩, h.2.2.2.rd (by decide) (by decide) (by decide)⟩
theorem Pl.mcb (p : Pl) : p.m.CB 2 12 := ⟨p.cb 0, p.cb 3, p.cb 6, p.cb 9⟩
theorem Tryz.lFixed (m : M3) (h : m.CB 2 12) : Con Tryz.prog Tryz.L 14 [.agg m.L] (fixR (redM 3 (wideM 3 m.fF fun i _ => m.fy i) 3) (redM 3 m.fF 3)) :=
 Tryz.aFixed m 3 rfl (M3.rd_mono h.rd (by decide)) (h.rbs 3 4) (h.rbF 3)
/-! the quarter turn's fixed places -/
theorem turn_S : (redM 3 (wideM 3 turnM.fF fun i _ => turnM.fy i) 3).lead = [0, 1] := by decide +kernel
theorem turn_S0 : (redM 3 (wideM 3 turnM.fF fun i _ => turnM.fy i) 3).F 2 3 = 0 := by decide +kernel
theorem turn_P : solV (redM 3 (wideM 3 turnM.fF fun i _ => turnM.fy i) 3) 3 0 = 1 ∧ solV (redM 3 (wideM 3 turnM.fF fun i _ => turnM.fy i) 3) 3 1 = 1 ∧ solV (redM 3 (wideM 3 turnM.fF fun i _ => turnM.fy i) 3) 3 2 = 0 := by decide +kernel
theorem turn_K : (freeC (redM 3 turnM.fF 3).lead 3).length = 1 ∧ kerM (redM 3 turnM.fF 3) 3 0 0 = 0 ∧ kerM (redM 3 turnM.fF 3) 3 0 1 = 0 ∧ kerM (redM 3 turnM.fF 3) 3 0 2 = 1 := by decide +kernel
theorem turn_cb : turnM.CB 2 12 := by
 have z : CB 2 12 0 := cb20.mono (by decide)
 have o : CB 2 12 1 := cb21.mono (by decide)
 exact ⟨⟨z, ⟨-2, by decide, by decide +kernel⟩, z⟩, ⟨o, z, z⟩, ⟨z, z, o⟩, ⟨⟨4, by decide, by decide +kernel⟩, z, z⟩⟩
theorem Tryz.lturnFixed : Con Tryz.prog Tryz.L 14 [.agg turnM.L] (.tup [.agg (V3.L ⟨1, 1, 0⟩), .sl 1 (V3.L ⟨0, 0, 1⟩), .bool true, .int .i64 0]) := by
 have h := Tryz.lFixed turnM turn_cb
 have hS := turn_S; have hS0 := turn_S0; obtain ⟨p0, p1, p2⟩ := turn_P; obtain ⟨k0, k1, k2, k3⟩ := turn_K
 generalize redM 3 (wideM 3 turnM.fF fun i _ => turnM.fy i) 3 = S at *
 generalize redM 3 turnM.fF 3 = K at *
 have hok : okS 3 3 S := fun i h1 h2 => by
  rw [hS] at h1
  obtain rfl : i = 2 := by simp at h1; omega
  exact hS0
 rw [show fixR S K = _ from if_pos hok, k0] at h
 have e1 : V3.of (solV S 3) = ⟨1, 1, 0⟩ := by unfold V3.of; rw [p0, p1, p2]
 have e2 : fixK K 1 = V3.L ⟨0, 0, 1⟩ := by
  rw [fixK_succ]
  have : V3.of (kerM K 3 0) = ⟨0, 0, 1⟩ := by unfold V3.of; rw [k1, k2, k3]
  rw [this]
  rfl
 rw [e1, e2] at h
 exact h
def shearM : M3 := ⟨shG ⟨1, 0, 0⟩ ⟨0, 0, 2⟩, V3.zero⟩
theorem V3.ext' {u v : V3} (h1 : u.x = v.x) (h2 : u.y = v.y) (h3 : u.z = v.z) : u = v := by cases u; cases v; simp_all
set_option maxHeartbeats 4000000 in
theorem Tryz.lknown : Con Tryz.prog Tryz.L 13 [] (.bool true) := by
 have q : ∀ (x : Rat), rd x ≤ 2 → rd x ≤ 90 := fun x h => by omega
 have v1 := Tryz.lvecN 1 0 0 ⟨1, 0, 0⟩ (by decide) (by decide) (by decide) (by decide +kernel) (by decide +kernel) (by decide +kernel)
 have v2 := Tryz.lvecN 0 0 2 ⟨0, 0, 2⟩ (by decide) (by decide) (by decide) (by decide +kernel) (by decide +kernel) (by decide +kernel)
 have v3 := Tryz.lvecN 3 4 5 ⟨3, 4, 5⟩ (by decide) (by decide) (by decide) (by decide +kernel) (by decide +kernel) (by decide +kernel)
 have v4 := Tryz.lvecN 3 4 11 ⟨3, 4, 11⟩ (by decide) (by decide) (by decide) (by decide +kernel) (by decide +kernel) (by decide +kernel)
 have v5 := Tryz.lvecN 1 1 0 ⟨1, 1, 0⟩ (by decide) (by decide) (by decide) (by decide +kernel) (by decide +kernel) (by decide +kernel)
 have v6 := Tryz.lvecN 0 0 1 ⟨0, 0, 1⟩ (by decide) (by decide) (by decide) (by decide +kernel) (by decide +kernel) (by decide +kernel)
 have v7 := Tryz.lvecN 0 (-1) 0 ⟨0, -1, 0⟩ (by decide) (by decide) (by decide) (by decide +kernel) (by decide +kernel) (by decide +kernel)
 have sh : Con Tryz.prog Tryz.L 28 [.agg (V3.L ⟨1, 0, 0⟩), .agg (V3.L ⟨0, 0, 2⟩)] (.tup [.agg shearM.L, .int .i64 0]) := Tryz.aShear ⟨1, 0, 0⟩ ⟨0, 0, 2⟩ ⟨by decide +kernel, by decide +kernel, by decide +kernel⟩ ⟨by decide +kernel, by decide +kernel, by decide +kernel⟩ (by decide +kernel)
 have hA : (shearM.g.app ⟨3, 4, 5⟩).add shearM.s = ⟨3, 4, 11⟩ := V3.ext' (by decide +kernel) (by decide +kernel) (by decide +kernel)
 have ap := Tryz.aApply shearM ⟨3, 4, 5⟩ ⟨⟨⟨by decide +kernel, by decide +kernel, by decide +kernel⟩, ⟨by decide +kernel, by decide +kernel, by decide +kernel⟩, ⟨by decide +kernel, by decide +kernel, by decide +kernel⟩⟩, ⟨by decide +kernel, by decide +kernel, by decide +kernel⟩⟩ ⟨by decide +kernel, by decide +kernel, by decide +kernel⟩ (by rw [hA]; exact ⟨by decide +kernel, by decide +kernel, by decide +kernel⟩)
 rw [hA] at ap
 have tu := Tryz.lturn
 have fi := Tryz.lturnFixed
 have hB : turnM.g.tr.app ⟨1, 0, 0⟩ = ⟨0, -1, 0⟩ := V3.ext' (by decide +kernel) (by decide +kernel) (by decide +kernel)
 have hC : (0 : Rat) - V3.dot ⟨1, 0, 0⟩ turnM.s = -2 := by decide +kernel
 have pu := Tryz.aPull turnM ⟨1, 0, 0⟩ 0 (M3.rd_mono turn_cb.rd (by decide)) ⟨by decide +kernel, by decide +kernel, by decide +kernel⟩ (by decide +kernel) (fun h => absurd h.1 (by decide +kernel)) (by rw [hB]; exact fun h => absurd h.2.1 (by decide +kernel)) (by rw [hB]; exact ⟨by decide +kernel, by decide +kernel, by decide +kernel⟩) (by rw [hC]; decide +kernel)
 rw [hB, hC] at pu
 have r2 : rt (-2) = [45, 50] := by decide +kernel
 generalize turnM = T at *
 generalize shearM = M at *
 refine rule13 Tryz.hL rfl rfl rfl ?_
 simp only [V3.L, M3.L, pL, rt0, r2, pc13, rs13, oU, oC, evX, evY, evZ, forall_const, implies_true, initE, stepF, D.clean, mvF, moF, tkF, shF, ariF, ciF, catF, scF, ebF, eqF, eqOk, eqPr, enF, notF, ngF, cvF, csF, csbF, lenF, lenSF, ixF, iaF, PX.slot, iaAF, faF, ldF, D.mem, stF, bxF, mkSF, boundF, fldF, ixAF, mmF2, D.plain, D.isPure, optAll, D.dull, callVF, splice, D.cells, D.one, sets, resT, D.flat, D.flat0, D.simple, Nat.reduceBNe, Nat.reduceLT, reduceIte, Nat.reduceEqDiff, Nat.reduceAdd, Nat.reduceMul, Nat.reduceSub, Nat.reduceLeDiff, Int.reduceToNat, Int.reduceLT, Int.reduceLE, Int.reduceEq, Int.reduceNeg, Int.reduceSub, Int.reduceAdd, Int.reduceMul, stG_own] at v1 v2 v3 v4 v5 v6 v7 sh ap tu fi pu ⊢
 refine callF_of v1 ?_
 (refine ev ?_; try exact ⟨⟩)
 refine callF_of v2 ?_
 (refine ev ?_; try exact ⟨⟩)
 refine callF_of sh ?_
 (refine ev ?_; try exact ⟨⟩)
 refine callF_of v3 ?_
 (refine ev ?_; try exact ⟨⟩)
 refine callF_of ap ?_
 (refine ev ?_; try exact ⟨⟩)
 refine callF_of tu ?_
 (refine ev ?_; try exact ⟨⟩)
 refine callF_of fi ?_
 (refine ev ?_; try exact ⟨⟩)
 refine callF_of tu ?_
 (refine ev ?_; try exact ⟨⟩)
 refine callF_of v1 ?_
 (refine ev ?_; try exact ⟨⟩)
 refine callF_of pu ?_
 (refine ev ?_; try exact ⟨⟩)
 refine callF_of v4 ?_
 (refine ev ?_; try exact ⟨⟩)
 refine callF_of v5 ?_
 (refine ev ?_; try exact ⟨⟩)
 refine ⟨fun _ => ⟨by decide, ?_⟩, fun h => h rfl⟩
 refine callF_of v6 ?_
 (refine ev ?_; try exact ⟨⟩)
 refine callF_of v7 ?_
 (refine ev ?_; try exact ⟨⟩)
end Go.Proofs

/-
 AFFINE: numbers that are not right; AffineApplies; printed by tools/aff7.py. Own work.
-/
namespace Go.Proofs
open Go Go.Pi Go.RowKit Go.Shelf Go.Ar Go.Mx

theorem app_cb {g : G3} {v : V3} {D E k l : Nat} (ha : g.a.CB D k) (hb : g.b.CB D k) (hc : g.c.CB D k) (hv : v.CB E l) : (g.app v).CB (D * E) (3 * (k * l)) := ⟨ha.dot hv, hb.dot hv, hc.dot hv⟩
theorem v3rd {v : V3} {D k : Nat} (h : v.CB D k) (l : Nat) (h0 : 0 < D := by decide) (h1 : D ≤ 1000000000 := by decide) (h2 : k ≤ 1000000000 := by decide) (h3 : 10 ≤ l := by decide) : v.rd l := V3.rd_mono (h.rd h0 h1 h2) h3
theorem v3sf {v : V3} {D k : Nat} (h : v.CB D k) (h0 : 0 < D := by decide) (h1 : D ≤ 1000000000 := by decide) (h2 : k ≤ 1000000000 := by decide) : v.SF := h.sf h0 h1 h2
theorem dok {u v : V3} {D E k l : Nat} (h : u.CB D k) (h' : v.CB E l) (h0 : 0 < D * E := by decide) (h1 : D * E ≤ 1000000000 := by decide) (h2 : 2 * (k * l) ≤ 1000000000 := by decide) : u.DotOk v := h.dotOk h' h0 h1 h2
end Go.Proofs

/-
 AFFINE: sizes of the inverse map; AffineInverts; printed by tools/aff8.py. Own work.
-/
namespace Go.Proofs
open Go Go.Pi Go.RowKit Go.Shelf Go.Ar Go.Mx

theorem inv_entry {k : Nat} {x d : Rat} {e : Int} (h : CB 4 k x) (hd : d * ((8 : Nat) : Rat) = (e : Rat)) (h0 : d ≠ 0) : CB e.natAbs (2 * k) (x * (1 / d)) := by
 obtain ⟨c, h1, h2⟩ := h
 have hi := Rat.mul_inv_cancel _ h0
 have e4 : ((4 : Nat) : Rat) = 4 := rfl
 have e8 : ((8 : Nat) : Rat) = 8 := rfl
 rw [e4] at h2; rw [e8] at hd
 rcases Int.lt_or_le e 0 with hn | hp
 ·refine ⟨-(2 * c), by omega, ?_⟩
  have e3 : ((e.natAbs : Nat) : Rat) = -(e : Rat) := by
   rw [← Rat.intCast_neg, ← Rat.intCast_natCast]; congr 1; omega
  have e2 : ((2 : Int) : Rat) = 2 := rfl
  rw [e3, ← hd, Rat.intCast_neg, Rat.intCast_mul, ← h2, e2, Rat.div_def]
  generalize d⁻¹ = z at *
  grind
 ·refine ⟨2 * c, by omega, ?_⟩
  have e3 : ((e.natAbs : Nat) : Rat) = (e : Rat) := by
   rw [← Rat.intCast_natCast]; congr 1; omega
  have e2 : ((2 : Int) : Rat) = 2 := rfl
  rw [e3, ← hd, Rat.intCast_mul, ← h2, e2, Rat.div_def]
  generalize d⁻¹ = z at *
  grind
theorem det_cb {m : M3} (h : m.CB 2 12) : CB 8 10368 m.g.det := (h.1.dot (h.2.1.cross h.2.2.1)).mono (by decide)
/-- what stands in the inverse map -/
theorem inv_cb {m : M3} (h : m.CB 2 12) (h0 : m.g.det ≠ 0) : ∃ N : Nat, 0 < N ∧ N ≤ 10368 ∧ m.g.inv.a.CB N 576 ∧ m.g.inv.b.CB N 576 ∧ m.g.inv.c.CB N 576 ∧ (m.g.inv.app m.s).CB (N * 2) 20736 ∧ m.inv.s.CB (N * 2) 20736 := by
 obtain ⟨e, he1, he2⟩ := det_cb h
 have hne : e ≠ 0 := fun e0 => by
  rw [e0] at he2
  rcases Rat.mul_eq_zero.1 (he2.trans (by rfl : ((0 : Int) : Rat) = 0)) with h | h
  ·exact h0 h
  ·exact absurd h (by decide +kernel)
 have k1 := h.2.1.cross h.2.2.1
 have k2 := h.2.2.1.cross h.1
 have k3 := h.1.cross h.2.1
 have ce := fun (x : Rat) (hx : CB 4 288 x) => inv_entry hx he2 h0
 have ha : m.g.inv.a.CB e.natAbs 576 := ⟨ce _ k1.1, ce _ k2.1, ce _ k3.1⟩
 have hb : m.g.inv.b.CB e.natAbs 576 := ⟨ce _ k1.2.1, ce _ k2.2.1, ce _ k3.2.1⟩
 have hc : m.g.inv.c.CB e.natAbs 576 := ⟨ce _ k1.2.2, ce _ k2.2.2, ce _ k3.2.2⟩
 have happ := app_cb ha hb hc h.2.2.2
 have hm1 : Go.Proofs.CB 1 1 (-1) := ⟨-1, by decide, by decide +kernel⟩
 have hmul := happ.mul hm1
 rw [Nat.mul_one, Nat.mul_one] at hmul
 exact ⟨e.natAbs, by omega, he1, ha, hb, hc, happ, hmul⟩
theorem xok {u v : V3} {D E k l : Nat} (h : u.CB D k) (h' : v.CB E l) (h0 : 0 < D * E := by decide) (h1 : D * E ≤ 1000000000 := by decide) (h2 : k * l ≤ 1000000000 := by decide) : u.CrossOk v := h.crossOk h' h0 h1 h2
/-- the reference's inverse of such a map -/
theorem Tryz.winv2 (m : M3) (h : m.CB 2 12) (h0 : m.g.det ≠ 0) : Con Tryz.prog Tryz.L 38 [.agg m.F] (.agg m.inv.F) ∧ m.inv.SF ∧ m.inv.rd 10 := by
 obtain ⟨N, n0, n1, ia, ib, ic, ap, is⟩ := inv_cb h h0
 have hsf : m.SF := ⟨v3sf h.1, v3sf h.2.1, v3sf h.2.2.1, v3sf h.2.2.2⟩
 have k1 := h.2.1.cross h.2.2.1
 have k2 := h.2.2.1.cross h.1
 have k3 := h.1.cross h.2.1
 have q : ∀ {v : V3}, v.CB N 576 → v.SF := fun hv => hv.sf n0 (by omega) (by decide)
 have q2 : ∀ {v : V3}, v.CB (N * 2) 20736 → v.SF := fun hv => hv.sf (by omega) (by omega) (by decide)
 have q3 : ∀ {v : V3}, v.CB N 576 → v.DotOk m.s := fun hv => hv.dotOk h.2.2.2 (by omega) (by omega) (by decide)
 refine ⟨Tryz.winverse m hsf h0 ((det_cb h).sf (by decide) (by decide) (by decide)) (xok h.2.1 h.2.2.1) (xok h.2.2.1 h.1) (xok h.1 h.2.1) (v3sf k1) (v3sf k2) (v3sf k3) (dok h.1 k1) (q ia) (q ib) (q ic) (q3 ia) (q3 ib) (q3 ic) (q2 ap) (q2 is), ⟨q ia, q ib, q ic, q2 is⟩, ?_⟩
 exact ⟨⟨ia.rd n0 (by omega) (by decide), ib.rd n0 (by omega) (by decide), ic.rd n0 (by omega) (by decide)⟩, is.rd (by omega) (by omega) (by decide)⟩
end Go.Proofs

/-
 AFFINE: planes with a wrong number; what must not vanish; AffinePlanes; printed by tools/aff9.py. Own work.
-/
namespace Go.Proofs
open Go Go.Pi Go.RowKit Go.Shelf Go.Ar Go.Mx

/-- a plane whose offset is any text -/
def pT (v : V3) (b : List UInt8) : List D := [.str (rt v.x), .str (rt v.y), .str (rt v.z), .str b]
theorem V3.CB.col {D k : Nat} {g : G3} (ha : g.a.CB D k) (hb : g.b.CB D k) (hc : g.c.CB D k) (i : Nat) : (g.col i).CB D k := ⟨ha.at' i, hb.at' i, hc.at' i⟩
end Go.Proofs

/-
 AFFINE: what is kept: fixed places with the free directions, a plane pulled and pushed (plain, with the contracts). Own work.
-/
namespace Go.Proofs
open Go Go.Pi Go.RowKit Go.Shelf Go.Ar Go.Mx

theorem fix_dot (m : M3) (f : Nat → Rat) (i : Nat) : dotM 3 (m.fF i) f = (m.fr i).x * f 0 + (m.fr i).y * f 1 + (m.fr i).z * f 2 := by
 show 0 + (m.fr i).x * f 0 + (m.fr i).y * f 1 + (m.fr i).z * f 2 = _
 grind
/-- a place that solves the system is fixed -/
theorem fixed_of (m : M3) (f : Nat → Rat) (h : ∀ i, i < 3 → dotM 3 (m.fF i) f = m.fy i) : (m.g.app (V3.of f)).add m.s = V3.of f := by
 have h0 := h 0 (by decide); have h1 := h 1 (by decide); have h2 := h 2 (by decide)
 rw [fix_dot] at h0 h1 h2
 have h0 : (m.g.a.x - 1) * f 0 + (m.g.a.y - 0) * f 1 + (m.g.a.z - 0) * f 2 = -m.s.x := h0
 have h1 : (m.g.b.x - 0) * f 0 + (m.g.b.y - 1) * f 1 + (m.g.b.z - 0) * f 2 = -m.s.y := h1
 have h2 : (m.g.c.x - 0) * f 0 + (m.g.c.y - 0) * f 1 + (m.g.c.z - 1) * f 2 = -m.s.z := h2
 apply V3.ext'
 ·show m.g.a.x * f 0 + m.g.a.y * f 1 + m.g.a.z * f 2 + m.s.x = f 0
  generalize m.s.x = w at *
  grind
 ·show m.g.b.x * f 0 + m.g.b.y * f 1 + m.g.b.z * f 2 + m.s.y = f 1
  generalize m.s.y = w at *
  grind
 ·show m.g.c.x * f 0 + m.g.c.y * f 1 + m.g.c.z * f 2 + m.s.z = f 2
  generalize m.s.z = w at *
  grind
/-- a direction of the kernel stays -/
theorem free_of (m : M3) (f : Nat → Rat) (h : ∀ i, i < 3 → dotM 3 (m.fF i) f = 0) : m.g.app (V3.of f) = V3.of f := by
 have h0 := h 0 (by decide); have h1 := h 1 (by decide); have h2 := h 2 (by decide)
 rw [fix_dot] at h0 h1 h2
 have h0 : (m.g.a.x - 1) * f 0 + (m.g.a.y - 0) * f 1 + (m.g.a.z - 0) * f 2 = 0 := h0
 have h1 : (m.g.b.x - 0) * f 0 + (m.g.b.y - 1) * f 1 + (m.g.b.z - 0) * f 2 = 0 := h1
 have h2 : (m.g.c.x - 0) * f 0 + (m.g.c.y - 0) * f 1 + (m.g.c.z - 1) * f 2 = 0 := h2
 apply V3.ext'
 ·show m.g.a.x * f 0 + m.g.a.y * f 1 + m.g.a.z * f 2 = f 0
  grind
 ·show m.g.b.x * f 0 + m.g.b.y * f 1 + m.g.b.z * f 2 = f 1
  grind
 ·show m.g.c.x * f 0 + m.g.c.y * f 1 + m.g.c.z * f 2 = f 2
  grind
/-- the place with the same multiple of the first directions -/
def accP (P : V3) (q : Rat) (K : Nat → V3) : Nat → V3
 | 0 => P
 | i + 1 => ⟨(accP P q K i).x + q * (K i).x, (accP P q K i).y + q * (K i).y, (accP P q K i).z + q * (K i).z⟩
theorem acc_fixed {m : M3} {P : V3} {q : Rat} {K : Nat → V3} (hP : (m.g.app P).add m.s = P) : ∀ {n : Nat}, (∀ i, i < n → m.g.app (K i) = K i) → (m.g.app (accP P q K n)).add m.s = accP P q K n
 | 0, _ => hP
 | n + 1, hK => by
   have ih := acc_fixed (q := q) hP (n := n) (fun i hi => hK i (by omega))
   have hk := hK n (by omega)
   generalize hA : accP P q K n = A at *
   have e : accP P q K (n + 1) = ⟨A.x + q * (K n).x, A.y + q * (K n).y, A.z + q * (K n).z⟩ := by rw [← hA]; rfl
   rw [e]
   generalize K n = B at *
   have ix : m.g.a.x * A.x + m.g.a.y * A.y + m.g.a.z * A.z + m.s.x = A.x := congrArg V3.x ih
   have iy : m.g.b.x * A.x + m.g.b.y * A.y + m.g.b.z * A.z + m.s.y = A.y := congrArg V3.y ih
   have iz : m.g.c.x * A.x + m.g.c.y * A.y + m.g.c.z * A.z + m.s.z = A.z := congrArg V3.z ih
   have kx : m.g.a.x * B.x + m.g.a.y * B.y + m.g.a.z * B.z = B.x := congrArg V3.x hk
   have ky : m.g.b.x * B.x + m.g.b.y * B.y + m.g.b.z * B.z = B.y := congrArg V3.y hk
   have kz : m.g.c.x * B.x + m.g.c.y * B.y + m.g.c.z * B.z = B.z := congrArg V3.z hk
   clear ih hk e hA hP hK
   apply V3.ext'
   ·show m.g.a.x * (A.x + q * B.x) + m.g.a.y * (A.y + q * B.y) + m.g.a.z * (A.z + q * B.z) + m.s.x = A.x + q * B.x
    have : m.g.a.x * (A.x + q * B.x) + m.g.a.y * (A.y + q * B.y) + m.g.a.z * (A.z + q * B.z) + m.s.x = (m.g.a.x * A.x + m.g.a.y * A.y + m.g.a.z * A.z + m.s.x) + q * (m.g.a.x * B.x + m.g.a.y * B.y + m.g.a.z * B.z) := by clear ix iy iz kx ky kz; grind
    rw [this, ix, kx]
   ·show m.g.b.x * (A.x + q * B.x) + m.g.b.y * (A.y + q * B.y) + m.g.b.z * (A.z + q * B.z) + m.s.y = A.y + q * B.y
    have : m.g.b.x * (A.x + q * B.x) + m.g.b.y * (A.y + q * B.y) + m.g.b.z * (A.z + q * B.z) + m.s.y = (m.g.b.x * A.x + m.g.b.y * A.y + m.g.b.z * A.z + m.s.y) + q * (m.g.b.x * B.x + m.g.b.y * B.y + m.g.b.z * B.z) := by clear ix iy iz kx ky kz; grind
    rw [this, iy, ky]
   ·show m.g.c.x * (A.x + q * B.x) + m.g.c.y * (A.y + q * B.y) + m.g.c.z * (A.z + q * B.z) + m.s.z = A.z + q * B.z
    have : m.g.c.x * (A.x + q * B.x) + m.g.c.y * (A.y + q * B.y) + m.g.c.z * (A.z + q * B.z) + m.s.z = (m.g.c.x * A.x + m.g.c.y * A.y + m.g.c.z * A.z + m.s.z) + q * (m.g.c.x * B.x + m.g.c.y * B.y + m.g.c.z * B.z) := by clear ix iy iz kx ky kz; grind
    rw [this, iz, kz]
/-- sizes -/
def V3.nb (k l : Nat) (v : V3) : Prop := NB k l v.x ∧ NB k l v.y ∧ NB k l v.z
theorem acc_nb {P : V3} {q : Rat} {K : Nat → V3} (hP : P.nb 23 23) (hq : NB 3 0 q) : ∀ {n : Nat}, (∀ i, i < n → (K i).nb 23 23) → (accP P q K n).nb (26 + 24 * n) (23 + 23 * n)
 | 0, _ => ⟨hP.1.mono (by omega) (by omega), hP.2.1.mono (by omega) (by omega), hP.2.2.mono (by omega) (by omega)⟩
 | n + 1, hK => by
   have ih := acc_nb (q := q) hP hq (n := n) (fun i hi => hK i (by omega))
   have hk := hK n (by omega)
   exact ⟨(ih.1.add (hq.mul hk.1)).mono (by omega) (by omega), (ih.2.1.add (hq.mul hk.2.1)).mono (by omega) (by omega), (ih.2.2.add (hq.mul hk.2.2)).mono (by omega) (by omega)⟩
theorem V3.nb_rd {k l : Nat} {v : V3} (h : v.nb k l) (h1 : l ≤ k) : v.rd (k + 1) := ⟨rd_of_nb (h.1.mono (Nat.le_refl _) h1), rd_of_nb (h.2.1.mono (Nat.le_refl _) h1), rd_of_nb (h.2.2.mono (Nat.le_refl _) h1)⟩
/-! a plane pulled and pushed -/
theorem inv_pull {g : G3} (h0 : g.det ≠ 0) (v : V3) : g.inv.tr.app (g.tr.app v) = v := by
 obtain ⟨⟨a, b, c⟩, ⟨d, e, f⟩, ⟨p, q, r⟩⟩ := g
 obtain ⟨x, y, z⟩ := v
 have hk : (1 : Rat) / G3.det ⟨⟨a, b, c⟩, ⟨d, e, f⟩, ⟨p, q, r⟩⟩ * (a * (e * r - f * q) + b * (f * p - d * r) + c * (d * q - e * p)) = 1 := by
  show (1 : Rat) / G3.det ⟨⟨a, b, c⟩, ⟨d, e, f⟩, ⟨p, q, r⟩⟩ * G3.det ⟨⟨a, b, c⟩, ⟨d, e, f⟩, ⟨p, q, r⟩⟩ = 1
  rw [Rat.div_def, Rat.one_mul]; exact Rat.inv_mul_cancel _ h0
 clear h0
 apply V3.ext'
 ·show (e * r - f * q) * (1 / G3.det _) * (a * x + d * y + p * z) + (f * p - d * r) * (1 / G3.det _) * (b * x + e * y + q * z) + (d * q - e * p) * (1 / G3.det _) * (c * x + f * y + r * z) = x
  generalize (1 : Rat) / G3.det ⟨⟨a, b, c⟩, ⟨d, e, f⟩, ⟨p, q, r⟩⟩ = k at *
  have : (e * r - f * q) * k * (a * x + d * y + p * z) + (f * p - d * r) * k * (b * x + e * y + q * z) + (d * q - e * p) * k * (c * x + f * y + r * z) = k * (a * (e * r - f * q) + b * (f * p - d * r) + c * (d * q - e * p)) * x := by clear hk; grind
  rw [this, hk, Rat.one_mul]
 ·show (q * c - r * b) * (1 / G3.det _) * (a * x + d * y + p * z) + (r * a - p * c) * (1 / G3.det _) * (b * x + e * y + q * z) + (p * b - q * a) * (1 / G3.det _) * (c * x + f * y + r * z) = y
  generalize (1 : Rat) / G3.det ⟨⟨a, b, c⟩, ⟨d, e, f⟩, ⟨p, q, r⟩⟩ = k at *
  have : (q * c - r * b) * k * (a * x + d * y + p * z) + (r * a - p * c) * k * (b * x + e * y + q * z) + (p * b - q * a) * k * (c * x + f * y + r * z) = k * (a * (e * r - f * q) + b * (f * p - d * r) + c * (d * q - e * p)) * y := by clear hk; grind
  rw [this, hk, Rat.one_mul]
 ·show (b * f - c * e) * (1 / G3.det _) * (a * x + d * y + p * z) + (c * d - a * f) * (1 / G3.det _) * (b * x + e * y + q * z) + (a * e - b * d) * (1 / G3.det _) * (c * x + f * y + r * z) = z
  generalize (1 : Rat) / G3.det ⟨⟨a, b, c⟩, ⟨d, e, f⟩, ⟨p, q, r⟩⟩ = k at *
  have : (b * f - c * e) * k * (a * x + d * y + p * z) + (c * d - a * f) * k * (b * x + e * y + q * z) + (a * e - b * d) * k * (c * x + f * y + r * z) = k * (a * (e * r - f * q) + b * (f * p - d * r) + c * (d * q - e * p)) * z := by clear hk; grind
  rw [this, hk, Rat.one_mul]
/-- the transposed map beside the map -/
theorem tr_dot (g : G3) (u v : V3) : (g.tr.app u).dot v = u.dot (g.app v) := by
 show (g.a.x * u.x + g.b.x * u.y + g.c.x * u.z) * v.x + (g.a.y * u.x + g.b.y * u.y + g.c.y * u.z) * v.y + (g.a.z * u.x + g.b.z * u.y + g.c.z * u.z) * v.z = u.x * (g.a.x * v.x + g.a.y * v.y + g.a.z * v.z) + u.y * (g.b.x * v.x + g.b.y * v.y + g.b.z * v.z) + u.z * (g.c.x * v.x + g.c.y * v.y + g.c.z * v.z)
 grind
theorem dot_tr (g : G3) (u v : V3) : u.dot (g.app v) = (g.tr.app u).dot v := (tr_dot g u v).symm
theorem inv_off {m : M3} (h0 : m.g.det ≠ 0) (v : V3) (o : Rat) : o - v.dot m.s - (m.g.tr.app v).dot m.inv.s = o := by
 have e : (m.g.tr.app v).dot m.inv.s = -((m.g.tr.app v).dot (m.g.inv.app m.s)) := by
  show _ * (_ * -1) + _ * (_ * -1) + _ * (_ * -1) = -(_ * _ + _ * _ + _ * _)
  grind
 rw [e, dot_tr, inv_pull h0]
 grind
/-- Pull and Push of the law -/
theorem Tryz.keepsP (m : M3) (v : V3) (o : Rat) (hc : m.CB 2 12) (hv : v.CB 2 12) (ho : rd o ≤ 10) (hw : rd (o - v.dot m.s) ≤ 100) :
  Con Tryz.prog Tryz.L 41 [.agg m.L, .agg (pL v o)] (.tup [.agg [.str [], .str [], .str [], .str []], .int .i64 17]) ∨
  Con Tryz.prog Tryz.L 41 [.agg m.L, .agg (pL v o)] (.tup [.agg [.str [], .str [], .str [], .str []], .int .i64 18]) ∨
  (∃ u w, Con Tryz.prog Tryz.L 41 [.agg m.L, .agg (pL v o)] (.tup [.agg (pL u w), .int .i64 0]) ∧ Con Tryz.prog Tryz.L 42 [.agg m.L, .agg (pL u w)] (.tup [.agg [.str [], .str [], .str [], .str []], .int .i64 18])) ∨
  (∃ u w, Con Tryz.prog Tryz.L 41 [.agg m.L, .agg (pL v o)] (.tup [.agg (pL u w), .int .i64 0]) ∧ Con Tryz.prog Tryz.L 42 [.agg m.L, .agg (pL u w)] (.tup [.agg (pL v o), .int .i64 0])) := by
 have hrd := M3.rd_mono hc.rd (show 10 ≤ 100 by decide)
 have hvr := v3rd hv 100
 have c := V3.CB.col hc.1 hc.2.1 hc.2.2.1
 have app : (m.g.tr.app v).CB (2 * 2) (3 * (12 * 12)) := ⟨(c 0).dot hv, (c 1).dot hv, (c 2).dot hv⟩
 by_cases hz : v.isZ
 ·exact .inl (Tryz.aPull17 m v o hrd hvr (by omega) hz)
 by_cases hm : (m.g.tr.app v).isZ
 ·exact .inr (.inl (Tryz.aPull18 m v o hrd hvr (by omega) hz hm))
 have pu := Tryz.aPull m v o hrd hvr (by omega) hz hm (v3rd app 200) (by omega)
 by_cases h0 : m.g.det = 0
 ·exact .inr (.inr (.inl ⟨_, _, pu, Tryz.aPush18 m _ _ hrd (v3rd app 100) hw hm h0⟩))
 ·have ps := Tryz.aPush m (m.g.tr.app v) (o - v.dot m.s) hrd (v3rd app 100) hw hm h0 (by have := (det_cb hc).rd (by decide) (by decide) (by decide); omega) (M3.rd_mono (Tryz.winv2 m hc h0).2.2 (by decide)) (by rw [inv_pull h0]; exact hz) (by rw [inv_pull h0]; exact v3rd hv 200) (by rw [inv_off h0]; omega)
  rw [inv_pull h0, inv_off h0] at ps
  exact .inr (.inr (.inr ⟨_, _, pu, ps⟩))
end Go.Proofs

/-
 AFFINE: what is known of Fixed, its sizes kept from the eye of the elaborator. Own work.
-/
namespace Go.Proofs
open Go Go.Pi Go.RowKit Go.Shelf Go.Ar Go.Mx

theorem Tryz.fixFacts (m : M3) (hcb : m.CB 2 12) : ∃ S K : RSt, Con Tryz.prog Tryz.L 14 [.agg m.L] (fixR S K) ∧ (freeC K.lead 3).length ≤ 3 ∧
  (∀ i, i < (freeC K.lead 3).length → m.g.app (V3.of (kerM K 3 i)) = V3.of (kerM K 3 i)) ∧ (∀ i, i < (freeC K.lead 3).length → V3.nb 23 23 (V3.of (kerM K 3 i))) ∧
  (okS 3 3 S → (m.g.app (V3.of (solV S 3))).add m.s = V3.of (solV S 3)) ∧ V3.nb 23 23 (V3.of (solV S 3)) := by
 obtain ⟨w, h3⟩ : ∃ w, w = 3 := ⟨3, rfl⟩
 have fx := Tryz.aFixed m w h3 (M3.rd_mono hcb.rd (by decide)) (hcb.rbs w (w + 1)) (hcb.rbF w)
 have hgd := good_red 3 m.fF w
 have hfc := free_count hgd.inc hgd.lt
 have hp : (2 + 1) * 2 ^ w = 24 := by rw [h3]
 have hKs : ∀ i, i < (freeC (redM 3 m.fF w).lead w).length → ∀ t, t < 3 → dotM w (m.fF t) (kerM (redM 3 m.fF w) w i) = 0 := fun i hi t ht => (sol_red (w := w)).1 (ker_sol hgd (free_mem hi).1 (free_mem hi).2) t ht
 have hwr := rbs_red (hcb.rbs w (w + 1)) (w := w) (by omega)
 have hFr := rbs_red (hcb.rbF w) (w := w) (Nat.le_refl _)
 rw [hp] at hwr hFr
 have hPs : okS 3 w (redM 3 (wideM w m.fF fun i _ => m.fy i) w) → ∀ i, i < 3 → dotM w (m.fF i) (solV (redM 3 (wideM w m.fF fun i _ => m.fy i) w) w) = m.fy i := fun h => sol_ok h
 have hPn : ∀ j, NB (24 - 1) (24 - 1) (solV (redM 3 (wideM w m.fF fun i _ => m.fy i) w) w j) := solV_nb (n := 3) (m := w) hwr (good_red 3 _ w).len
 have hKn : ∀ i, i < (freeC (redM 3 m.fF w).lead w).length → ∀ j, NB (24 - 1) (24 - 1) (kerM (redM 3 m.fF w) w i j) := fun i hi => kerM_nb hFr hgd hi
 generalize redM 3 (wideM w m.fF fun i _ => m.fy i) w = S at *
 generalize redM 3 m.fF w = K at *
 subst h3
 refine ⟨S, K, fx, by omega, fun i hi => free_of m _ (hKs i hi), fun i hi => ⟨hKn i hi 0, hKn i hi 1, hKn i hi 2⟩, fun h => fixed_of m _ (hPs h), ⟨hPn 0, hPn 1, hPn 2⟩⟩
end Go.Proofs

/-
 AFFINE: AffineKeeps; printed by tools/aff10.py. Own work.
-/
namespace Go.Proofs
open Go Go.Pi Go.RowKit Go.Shelf Go.Ar Go.Mx

theorem fixK_at {K : RSt} {n k : Nat} (h : k < n) : List.drop (k * 3) (fixK K n) = (V3.of (kerM K 3 k)).L ++ List.drop (k * 3 + 3) (fixK K n) := by
 unfold fixK
 exact tsD_drop (v := (V3.of (kerM K 3 k)).t) (lst_at (fun i => (V3.of (kerM K 3 i)).t) h)
theorem fix_take {K : RSt} {n k : Nat} (h : k < n) : List.take 3 (List.drop (k * 3) (fixK K n)) = [.str (rt (kerM K 3 k 0)), .str (rt (kerM K 3 k 1)), .str (rt (kerM K 3 k 2))] := by
 rw [fixK_at h]; rfl
theorem over_one (k : Int) (h : i8 k) : NB 3 0 ((k : Rat) / ((1 : Int) : Rat)) ∧ SF ((k : Rat) / ((1 : Int) : Rat)) := by
 obtain ⟨h1, h2⟩ := h
 rw [div1]
 have e : (k : Rat) * ((1 : Nat) : Rat) = (k : Rat) := by
  have : ((1 : Nat) : Rat) = 1 := rfl
  rw [this, Rat.mul_one]
 exact ⟨⟨k, 1, by decide, by decide, by omega, e⟩, CB.sf (D := 1) (k := 128) ⟨k, by omega, e⟩ (by decide) (by decide) (by decide)⟩
theorem over_three (k : Int) (h : i8 k) : CB 3 128 ((k : Rat) / ((3 : Int) : Rat)) := by
 obtain ⟨h1, h2⟩ := h
 refine ⟨k, by omega, ?_⟩
 have h3 : ((3 : Int) : Rat) * ((3 : Int) : Rat)⁻¹ = 1 := Rat.mul_inv_cancel _ (by decide +kernel)
 have : ((3 : Nat) : Rat) = ((3 : Int) : Rat) := rfl
 rw [this, Rat.div_def, Rat.mul_assoc, Rat.mul_comm _ ((3 : Int) : Rat), h3, Rat.mul_one]
set_option maxRecDepth 100000 in
set_option maxHeartbeats 16000000 in
theorem Tryz.lkeeps (p : Pl) (a b c k : Int) (hp : p.ok) (ha : i8 a) (hb : i8 b) (hc : i8 c) (hk : i8 k) : Con Tryz.prog Tryz.L 8 [.agg p.D, .agg [.int .i8 a, .int .i8 b, .int .i8 c], .int .i8 k] (.bool true) := by
 have kn := Tryz.lknown
 have ve := Tryz.lvec a b c false ha hb hc
 have hv : V3.CB 2 12 ⟨vq false a, vq false b, vq false c⟩ := ⟨vq_cb _ _, vq_cb _ _, vq_cb _ _⟩
 generalize (⟨vq false a, vq false b, vq false c⟩ : V3) = v at *
 have ho := over_three k hk
 have fo : Con Tryz.prog Tryz.L 39 [.int .i64 k, .int .i64 3] (fD ((k : Rat) / ((3 : Int) : Rat))) := Tryz.fmake k 3 (by decide) (by have := hk.1; have := hk.2; omega) (by decide)
 generalize (k : Rat) / ((3 : Int) : Rat) = o at *
 obtain ⟨hq, hqs⟩ := over_one k hk
 have fq : Con Tryz.prog Tryz.L 39 [.int .i64 k, .int .i64 1] (fD ((k : Rat) / ((1 : Int) : Rat))) := Tryz.fmake k 1 (by decide) (by have := hk.1; have := hk.2; omega) (by decide)
 have tq := Tryz.ftext _ hqs
 have hqr := rd_of_nb (hq.mono (Nat.le_refl _) (by decide : 0 ≤ 3))
 generalize (k : Rat) / ((1 : Int) : Rat) = q at *
 have mk := Tryz.lmake p hp
 have hcb := p.mcb
 generalize p.m = m at *
 have wv := Tryz.wvector v (v3sf hv)
 have tx := Tryz.ftext o (ho.sf (by decide) (by decide) (by decide))
 have hpl := Tryz.keepsP m v o hcb hv (ho.rd (by decide) (by decide) (by decide)) (by
  have := ((ho.up (2 * 2)).sub ((hv.dot hcb.2.2.2).up 3)).rd (by decide) (by decide) (by decide)
  omega)
 obtain ⟨S, K, fx, hN, hKs, hKn, hPs, hPn⟩ := Tryz.fixFacts m hcb
 have hrd := M3.rd_mono hcb.rd (show 10 ≤ 100 by decide)
 generalize hM : (freeC K.lead 3).length = M at *
 clear ho hqs
 by_cases hok : okS 3 3 S
 ·rw [show fixR S K = _ from if_pos hok, hM] at fx
  have hfix := hPs hok
  generalize V3.of (solV S 3) = P at *
  have hAn := fun i (hi : i ≤ M) => acc_nb (q := q) hPn hq (K := fun i => V3.of (kerM K 3 i)) (n := i) fun j hj => hKn j (by omega)
  have hAf := acc_fixed (q := q) hfix (K := fun i => V3.of (kerM K 3 i)) (n := M) hKs
  have hAr : (accP P q (fun i => V3.of (kerM K 3 i)) M).rd 100 := V3.rd_mono (V3.nb_rd (hAn M (Nat.le_refl _)) (by omega)) (by omega)
  have ap := Tryz.aApply m _ hrd hAr (by rw [hAf]; exact V3.rd_mono hAr (by decide))
  rw [hAf] at ap
  refine rule8 Tryz.hL rfl rfl rfl ?_
  simp only [fD, Pl.D, V3.L, V3.F, M3.L, pc8, rs8, oU, oC, evX, evY, evZ, forall_const, implies_true, initE, stepF, D.clean, mvF, moF, tkF, shF, ariF, ciF, catF, scF, ebF, eqF, eqOk, eqPr, enF, notF, ngF, cvF, csF, csbF, lenF, lenSF, ixF, iaF, PX.slot, iaAF, faF, ldF, D.mem, stF, bxF, mkSF, boundF, fldF, ixAF, mmF2, D.plain, D.isPure, optAll, D.dull, callVF, splice, D.cells, D.one, sets, resT, D.flat, D.flat0, D.simple, Nat.reduceBNe, Nat.reduceLT, reduceIte, Nat.reduceEqDiff, Nat.reduceAdd, Nat.reduceMul, Nat.reduceSub, Nat.reduceLeDiff, Int.reduceToNat, Int.reduceLT, Int.reduceLE, Int.reduceEq, Int.reduceNeg, Int.reduceSub, Int.reduceAdd, Int.reduceMul, stG_own] at kn ve wv mk fo tx fq tq fx ap ⊢
  repeat (refine ⟨by decide, ?_⟩)
  refine callF_of kn ?_
  (refine ev ?_; try exact ⟨⟩)
  repeat (refine ⟨by decide, ?_⟩)
  refine callF_of mk ?_
  (refine ev ?_; try exact ⟨⟩)
  repeat (refine ⟨by decide, ?_⟩)
  refine callF_of fx ?_
  (refine ev ?_; try exact ⟨⟩)
  refine loopF_of (fun E => ∃ i : Nat, i ≤ M ∧ E = [(2, .int .i8 k), (4, .box true [.int .i8 a, .int .i8 b, .int .i8 c]), (7, .box true m.L), (8, .box true (accP P q (fun i => V3.of (kerM K 3 i)) i).L), (9, .sl M (fixK K M)), (12, .int .i64 i)])
   (fun E => match lk E 12 with | .int _ i => M - i.toNat | _ => 0) ⟨0, Nat.zero_le _, by simp [accP, V3.L, M3.L, G3.L]⟩ ?_
  rintro _ ⟨i, hi, rfl⟩
  simp only [V3.L, M3.L, evX, evY, evZ, forall_const, implies_true, initE, stepF, D.clean, mvF, moF, tkF, shF, ariF, ciF, catF, scF, ebF, eqF, eqOk, eqPr, enF, notF, ngF, cvF, csF, csbF, lenF, lenSF, ixF, iaF, PX.slot, iaAF, faF, ldF, D.mem, stF, bxF, mkSF, boundF, fldF, ixAF, mmF2, D.plain, D.isPure, optAll, D.dull, callVF, splice, D.cells, D.one, sets, resT, D.flat, D.flat0, D.simple, Nat.reduceBNe, Nat.reduceLT, reduceIte, Nat.reduceEqDiff, Nat.reduceAdd, Nat.reduceMul, Nat.reduceSub, Nat.reduceLeDiff, Int.reduceToNat, Int.reduceLT, Int.reduceLE, Int.reduceEq, Int.reduceNeg, Int.reduceSub, Int.reduceAdd, Int.reduceMul, stG_own]
  refine ⟨fun h3 => ?_, fun h3 => ?_⟩
  ·have hiM : i < M := by omega
   have hA := V3.nb_rd (hAn i hi) (by omega)
   have hB := V3.nb_rd (hKn i hiM) (by decide)
   have m0 := Tryz.rmul q (kerM K 3 i 0) (by omega) (by have := hB.1; exact Nat.le_trans this (by decide))
   have m1 := Tryz.rmul q (kerM K 3 i 1) (by omega) (by have := hB.2.1; exact Nat.le_trans this (by decide))
   have m2 := Tryz.rmul q (kerM K 3 i 2) (by omega) (by have := hB.2.2; exact Nat.le_trans this (by decide))
   have a0 := Tryz.radd (accP P q (fun i => V3.of (kerM K 3 i)) i).x (q * kerM K 3 i 0) (by have := hA.1; omega) (Nat.le_trans (rd_of_nb ((hq.mul (hKn i hiM).1).mono (Nat.le_refl _) (by decide))) (by decide))
   have a1 := Tryz.radd (accP P q (fun i => V3.of (kerM K 3 i)) i).y (q * kerM K 3 i 1) (by have := hA.2.1; omega) (Nat.le_trans (rd_of_nb ((hq.mul (hKn i hiM).2.1).mono (Nat.le_refl _) (by decide))) (by decide))
   have a2 := Tryz.radd (accP P q (fun i => V3.of (kerM K 3 i)) i).z (q * kerM K 3 i 2) (by have := hA.2.2; omega) (Nat.le_trans (rd_of_nb ((hq.mul (hKn i hiM).2.2).mono (Nat.le_refl _) (by decide))) (by decide))
   refine ⟨by have := hk.1; have := hk.2; omega, ?_⟩
   repeat (refine ⟨by decide, ?_⟩)
   refine callF_of fq ?_
   (refine ev ?_; try exact ⟨⟩)
   repeat (refine ⟨by decide, ?_⟩)
   refine callF_of tq ?_
   (refine ev ?_; try exact ⟨⟩)
   refine ⟨⟨by omega, by omega, by rw [fixK_len]; omega⟩, ?_⟩
   rw [fix_take hiM]
   (refine ev ?_; try exact ⟨⟩)
   repeat (refine ⟨by decide, ?_⟩)
   refine callF_of m0 ?_
   (refine ev ?_; try exact ⟨⟩)
   repeat (refine ⟨by decide, ?_⟩)
   refine callF_of a0 ?_
   (refine ev ?_; try exact ⟨⟩)
   refine ⟨⟨by omega, by omega, by rw [fixK_len]; omega⟩, ?_⟩
   rw [fix_take hiM]
   (refine ev ?_; try exact ⟨⟩)
   repeat (refine ⟨by decide, ?_⟩)
   refine callF_of m1 ?_
   (refine ev ?_; try exact ⟨⟩)
   repeat (refine ⟨by decide, ?_⟩)
   refine callF_of a1 ?_
   (refine ev ?_; try exact ⟨⟩)
   refine ⟨⟨by omega, by omega, by rw [fixK_len]; omega⟩, ?_⟩
   rw [fix_take hiM]
   (refine ev ?_; try exact ⟨⟩)
   repeat (refine ⟨by decide, ?_⟩)
   refine callF_of m2 ?_
   (refine ev ?_; try exact ⟨⟩)
   repeat (refine ⟨by decide, ?_⟩)
   refine callF_of a2 ?_
   (refine ev ?_; try exact ⟨⟩)
   refine ⟨by omega, ⟨i + 1, by omega, by simp [accP, V3.L, M3.L, G3.L, V3.of]⟩, ?_⟩
   (try (refine ev ?_; try exact ⟨⟩)); omega
  ·obtain rfl : i = M := by omega
   repeat (refine ⟨by decide, ?_⟩)
   refine callF_of ap ?_
   (refine ev ?_; try exact ⟨⟩)
   repeat (refine ⟨by decide, ?_⟩)
   refine callF_of ve ?_
   (refine ev ?_; try exact ⟨⟩)
   repeat (refine ⟨by decide, ?_⟩)
   refine callF_of wv ?_
   (refine ev ?_; try exact ⟨⟩)
   refine ⟨by have := hk.1; have := hk.2; omega, ?_⟩
   repeat (refine ⟨by decide, ?_⟩)
   refine callF_of fo ?_
   (refine ev ?_; try exact ⟨⟩)
   repeat (refine ⟨by decide, ?_⟩)
   refine callF_of tx ?_
   (refine ev ?_; try exact ⟨⟩)
   rcases hpl with pu | pu | ⟨u, w, pu, ps⟩ | ⟨u, w, pu, ps⟩
   ·simp only [pL, V3.L, M3.L, evX, evY, evZ, forall_const, implies_true, initE, stepF, D.clean, mvF, moF, tkF, shF, ariF, ciF, catF, scF, ebF, eqF, eqOk, eqPr, enF, notF, ngF, cvF, csF, csbF, lenF, lenSF, ixF, iaF, PX.slot, iaAF, faF, ldF, D.mem, stF, bxF, mkSF, boundF, fldF, ixAF, mmF2, D.plain, D.isPure, optAll, D.dull, callVF, splice, D.cells, D.one, sets, resT, D.flat, D.flat0, D.simple, Nat.reduceBNe, Nat.reduceLT, reduceIte, Nat.reduceEqDiff, Nat.reduceAdd, Nat.reduceMul, Nat.reduceSub, Nat.reduceLeDiff, Int.reduceToNat, Int.reduceLT, Int.reduceLE, Int.reduceEq, Int.reduceNeg, Int.reduceSub, Int.reduceAdd, Int.reduceMul, stG_own] at pu
    repeat (refine ⟨by decide, ?_⟩)
    refine callF_of pu ?_
    (refine ev ?_; try exact ⟨⟩)
   ·simp only [pL, V3.L, M3.L, evX, evY, evZ, forall_const, implies_true, initE, stepF, D.clean, mvF, moF, tkF, shF, ariF, ciF, catF, scF, ebF, eqF, eqOk, eqPr, enF, notF, ngF, cvF, csF, csbF, lenF, lenSF, ixF, iaF, PX.slot, iaAF, faF, ldF, D.mem, stF, bxF, mkSF, boundF, fldF, ixAF, mmF2, D.plain, D.isPure, optAll, D.dull, callVF, splice, D.cells, D.one, sets, resT, D.flat, D.flat0, D.simple, Nat.reduceBNe, Nat.reduceLT, reduceIte, Nat.reduceEqDiff, Nat.reduceAdd, Nat.reduceMul, Nat.reduceSub, Nat.reduceLeDiff, Int.reduceToNat, Int.reduceLT, Int.reduceLE, Int.reduceEq, Int.reduceNeg, Int.reduceSub, Int.reduceAdd, Int.reduceMul, stG_own] at pu
    repeat (refine ⟨by decide, ?_⟩)
    refine callF_of pu ?_
    (refine ev ?_; try exact ⟨⟩)
   ·simp only [pL, V3.L, M3.L, evX, evY, evZ, forall_const, implies_true, initE, stepF, D.clean, mvF, moF, tkF, shF, ariF, ciF, catF, scF, ebF, eqF, eqOk, eqPr, enF, notF, ngF, cvF, csF, csbF, lenF, lenSF, ixF, iaF, PX.slot, iaAF, faF, ldF, D.mem, stF, bxF, mkSF, boundF, fldF, ixAF, mmF2, D.plain, D.isPure, optAll, D.dull, callVF, splice, D.cells, D.one, sets, resT, D.flat, D.flat0, D.simple, Nat.reduceBNe, Nat.reduceLT, reduceIte, Nat.reduceEqDiff, Nat.reduceAdd, Nat.reduceMul, Nat.reduceSub, Nat.reduceLeDiff, Int.reduceToNat, Int.reduceLT, Int.reduceLE, Int.reduceEq, Int.reduceNeg, Int.reduceSub, Int.reduceAdd, Int.reduceMul, stG_own] at pu ps
    repeat (refine ⟨by decide, ?_⟩)
    refine callF_of pu ?_
    (refine ev ?_; try exact ⟨⟩)
    repeat (refine ⟨by decide, ?_⟩)
    refine callF_of ps ?_
    (refine ev ?_; try exact ⟨⟩)
   ·simp only [pL, V3.L, M3.L, evX, evY, evZ, forall_const, implies_true, initE, stepF, D.clean, mvF, moF, tkF, shF, ariF, ciF, catF, scF, ebF, eqF, eqOk, eqPr, enF, notF, ngF, cvF, csF, csbF, lenF, lenSF, ixF, iaF, PX.slot, iaAF, faF, ldF, D.mem, stF, bxF, mkSF, boundF, fldF, ixAF, mmF2, D.plain, D.isPure, optAll, D.dull, callVF, splice, D.cells, D.one, sets, resT, D.flat, D.flat0, D.simple, Nat.reduceBNe, Nat.reduceLT, reduceIte, Nat.reduceEqDiff, Nat.reduceAdd, Nat.reduceMul, Nat.reduceSub, Nat.reduceLeDiff, Int.reduceToNat, Int.reduceLT, Int.reduceLE, Int.reduceEq, Int.reduceNeg, Int.reduceSub, Int.reduceAdd, Int.reduceMul, stG_own] at pu ps
    repeat (refine ⟨by decide, ?_⟩)
    refine callF_of pu ?_
    (refine ev ?_; try exact ⟨⟩)
    repeat (refine ⟨by decide, ?_⟩)
    refine callF_of ps ?_
    (refine ev ?_; try exact ⟨⟩)
 ·rw [show fixR S K = _ from if_neg hok] at fx
  refine rule8 Tryz.hL rfl rfl rfl ?_
  simp only [fD, Pl.D, V3.L, V3.F, M3.L, pc8, rs8, oU, oC, evX, evY, evZ, forall_const, implies_true, initE, stepF, D.clean, mvF, moF, tkF, shF, ariF, ciF, catF, scF, ebF, eqF, eqOk, eqPr, enF, notF, ngF, cvF, csF, csbF, lenF, lenSF, ixF, iaF, PX.slot, iaAF, faF, ldF, D.mem, stF, bxF, mkSF, boundF, fldF, ixAF, mmF2, D.plain, D.isPure, optAll, D.dull, callVF, splice, D.cells, D.one, sets, resT, D.flat, D.flat0, D.simple, Nat.reduceBNe, Nat.reduceLT, reduceIte, Nat.reduceEqDiff, Nat.reduceAdd, Nat.reduceMul, Nat.reduceSub, Nat.reduceLeDiff, Int.reduceToNat, Int.reduceLT, Int.reduceLE, Int.reduceEq, Int.reduceNeg, Int.reduceSub, Int.reduceAdd, Int.reduceMul, stG_own] at kn ve wv mk fo tx fx ⊢
  repeat (refine ⟨by decide, ?_⟩)
  refine callF_of kn ?_
  (refine ev ?_; try exact ⟨⟩)
  repeat (refine ⟨by decide, ?_⟩)
  refine callF_of mk ?_
  (refine ev ?_; try exact ⟨⟩)
  repeat (refine ⟨by decide, ?_⟩)
  refine callF_of fx ?_
  (refine ev ?_; try exact ⟨⟩)
  repeat (refine ⟨by decide, ?_⟩)
  refine callF_of ve ?_
  (refine ev ?_; try exact ⟨⟩)
  repeat (refine ⟨by decide, ?_⟩)
  refine callF_of wv ?_
  (refine ev ?_; try exact ⟨⟩)
  refine ⟨by have := hk.1; have := hk.2; omega, ?_⟩
  repeat (refine ⟨by decide, ?_⟩)
  refine callF_of fo ?_
  (refine ev ?_; try exact ⟨⟩)
  repeat (refine ⟨by decide, ?_⟩)
  refine callF_of tx ?_
  (refine ev ?_; try exact ⟨⟩)
  rcases hpl with pu | pu | ⟨u, w, pu, ps⟩ | ⟨u, w, pu, ps⟩
  ·simp only [pL, V3.L, M3.L, evX, evY, evZ, forall_const, implies_true, initE, stepF, D.clean, mvF, moF, tkF, shF, ariF, ciF, catF, scF, ebF, eqF, eqOk, eqPr, enF, notF, ngF, cvF, csF, csbF, lenF, lenSF, ixF, iaF, PX.slot, iaAF, faF, ldF, D.mem, stF, bxF, mkSF, boundF, fldF, ixAF, mmF2, D.plain, D.isPure, optAll, D.dull, callVF, splice, D.cells, D.one, sets, resT, D.flat, D.flat0, D.simple, Nat.reduceBNe, Nat.reduceLT, reduceIte, Nat.reduceEqDiff, Nat.reduceAdd, Nat.reduceMul, Nat.reduceSub, Nat.reduceLeDiff, Int.reduceToNat, Int.reduceLT, Int.reduceLE, Int.reduceEq, Int.reduceNeg, Int.reduceSub, Int.reduceAdd, Int.reduceMul, stG_own] at pu
   repeat (refine ⟨by decide, ?_⟩)
   refine callF_of pu ?_
   (refine ev ?_; try exact ⟨⟩)
  ·simp only [pL, V3.L, M3.L, evX, evY, evZ, forall_const, implies_true, initE, stepF, D.clean, mvF, moF, tkF, shF, ariF, ciF, catF, scF, ebF, eqF, eqOk, eqPr, enF, notF, ngF, cvF, csF, csbF, lenF, lenSF, ixF, iaF, PX.slot, iaAF, faF, ldF, D.mem, stF, bxF, mkSF, boundF, fldF, ixAF, mmF2, D.plain, D.isPure, optAll, D.dull, callVF, splice, D.cells, D.one, sets, resT, D.flat, D.flat0, D.simple, Nat.reduceBNe, Nat.reduceLT, reduceIte, Nat.reduceEqDiff, Nat.reduceAdd, Nat.reduceMul, Nat.reduceSub, Nat.reduceLeDiff, Int.reduceToNat, Int.reduceLT, Int.reduceLE, Int.reduceEq, Int.reduceNeg, Int.reduceSub, Int.reduceAdd, Int.reduceMul, stG_own] at pu
   repeat (refine ⟨by decide, ?_⟩)
   refine callF_of pu ?_
   (refine ev ?_; try exact ⟨⟩)
  ·simp only [pL, V3.L, M3.L, evX, evY, evZ, forall_const, implies_true, initE, stepF, D.clean, mvF, moF, tkF, shF, ariF, ciF, catF, scF, ebF, eqF, eqOk, eqPr, enF, notF, ngF, cvF, csF, csbF, lenF, lenSF, ixF, iaF, PX.slot, iaAF, faF, ldF, D.mem, stF, bxF, mkSF, boundF, fldF, ixAF, mmF2, D.plain, D.isPure, optAll, D.dull, callVF, splice, D.cells, D.one, sets, resT, D.flat, D.flat0, D.simple, Nat.reduceBNe, Nat.reduceLT, reduceIte, Nat.reduceEqDiff, Nat.reduceAdd, Nat.reduceMul, Nat.reduceSub, Nat.reduceLeDiff, Int.reduceToNat, Int.reduceLT, Int.reduceLE, Int.reduceEq, Int.reduceNeg, Int.reduceSub, Int.reduceAdd, Int.reduceMul, stG_own] at pu ps
   repeat (refine ⟨by decide, ?_⟩)
   refine callF_of pu ?_
   (refine ev ?_; try exact ⟨⟩)
   repeat (refine ⟨by decide, ?_⟩)
   refine callF_of ps ?_
   (refine ev ?_; try exact ⟨⟩)
  ·simp only [pL, V3.L, M3.L, evX, evY, evZ, forall_const, implies_true, initE, stepF, D.clean, mvF, moF, tkF, shF, ariF, ciF, catF, scF, ebF, eqF, eqOk, eqPr, enF, notF, ngF, cvF, csF, csbF, lenF, lenSF, ixF, iaF, PX.slot, iaAF, faF, ldF, D.mem, stF, bxF, mkSF, boundF, fldF, ixAF, mmF2, D.plain, D.isPure, optAll, D.dull, callVF, splice, D.cells, D.one, sets, resT, D.flat, D.flat0, D.simple, Nat.reduceBNe, Nat.reduceLT, reduceIte, Nat.reduceEqDiff, Nat.reduceAdd, Nat.reduceMul, Nat.reduceSub, Nat.reduceLeDiff, Int.reduceToNat, Int.reduceLT, Int.reduceLE, Int.reduceEq, Int.reduceNeg, Int.reduceSub, Int.reduceAdd, Int.reduceMul, stG_own] at pu ps
   repeat (refine ⟨by decide, ?_⟩)
   refine callF_of pu ?_
   (refine ev ?_; try exact ⟨⟩)
   repeat (refine ⟨by decide, ?_⟩)
   refine callF_of ps ?_
   (refine ev ?_; try exact ⟨⟩)
end Go.Proofs
