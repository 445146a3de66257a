/-
 AFFINE: plans, printed by tools/aff6.py. Own work.
-/
import Derived.Test.YtbcehhemdapjlaaGreatDoorPj
import Derived.Test.YtbcehhemdapjlaaGreatDoorSh
set_option linter.unusedVariables false
set_option linter.unusedSimpArgs false
namespace Go.Proofs
open Go Go.Pi Go.RowKit Go.Shelf Go.Ar Go.Mx

/-- a number of a plan -/
def vq (h : Bool) (a : Int) : Rat := ((a.tmod 7 : Int) : Rat) / (((if h then 2 else 1 : Int)) : Rat)
theorem tmod7 (z : Int) : -6 ≤ z.tmod 7 ∧ z.tmod 7 ≤ 6 := by
 have h1 := Int.tmod_lt_of_pos z (show (0 : Int) < 7 by decide)
 have h2 := Int.tmod_lt_of_pos (-z) (show (0 : Int) < 7 by decide)
 rw [Int.neg_tmod] at h2
 omega
theorem vq_cb (h : Bool) (a : Int) : CB 2 12 (vq h a) := by
 have ht := tmod7 a
 unfold vq
 generalize a.tmod 7 = z at *
 cases h
 ·refine ⟨2 * z, by omega, ?_⟩
  show (z : Rat) / ((1 : Int) : Rat) * ((2 : Nat) : Rat) = _
  rw [div1, Rat.intCast_mul]
  have : ((2 : Nat) : Rat) = 2 := rfl
  have e2 : ((2 : Int) : Rat) = 2 := rfl
  rw [this, e2]; grind
 ·refine ⟨z, by omega, ?_⟩
  show (z : Rat) / ((2 : Int) : Rat) * ((2 : Nat) : Rat) = _
  have h3 : ((2 : Int) : Rat) * ((2 : Int) : Rat)⁻¹ = 1 := Rat.mul_inv_cancel _ (by decide +kernel)
  have : ((2 : Nat) : Rat) = ((2 : Int) : Rat) := rfl
  rw [this, Rat.div_def, Rat.mul_assoc, Rat.mul_comm _ ((2 : Int) : Rat), h3, Rat.mul_one]
def i8 (z : Int) : Prop := -128 ≤ z ∧ z ≤ 127
set_option maxHeartbeats 2000000 in
theorem Tryz.lvec (a b c : Int) (h : Bool) (ha : i8 a) (hb : i8 b) (hc : i8 c) : Con Tryz.prog Tryz.L 19 [.agg [.int .i8 a, .int .i8 b, .int .i8 c], .bool h] (.agg (V3.F ⟨vq h a, vq h b, vq h c⟩)) := by
 have ta := tmod7 a; have tb := tmod7 b; have tc := tmod7 c
 obtain ⟨ha1, ha2⟩ := ha; obtain ⟨hb1, hb2⟩ := hb; obtain ⟨hc1, hc2⟩ := hc
 have hd : (if h then 2 else 1 : Int).natAbs ≤ 2 ∧ (if h then 2 else 1 : Int) ≠ 0 := by cases h <;> decide
 have m1 := Tryz.fmake (a.tmod 7) (if h then 2 else 1) hd.2 (by omega) (by omega)
 have m2 := Tryz.fmake (b.tmod 7) (if h then 2 else 1) hd.2 (by omega) (by omega)
 have m3 := Tryz.fmake (c.tmod 7) (if h then 2 else 1) hd.2 (by omega) (by omega)
 have m1 : Con Tryz.prog Tryz.L 39 [.int .i64 (a.tmod 7), .int .i64 (if h then 2 else 1)] (fD (vq h a)) := m1
 have m2 : Con Tryz.prog Tryz.L 39 [.int .i64 (b.tmod 7), .int .i64 (if h then 2 else 1)] (fD (vq h b)) := m2
 have m3 : Con Tryz.prog Tryz.L 39 [.int .i64 (c.tmod 7), .int .i64 (if h then 2 else 1)] (fD (vq h c)) := m3
 generalize vq h a = qa at *
 generalize vq h b = qb at *
 generalize vq h c = qc at *
 refine rule19 Tryz.hL rfl rfl rfl ?_
 cases h
 all_goals
  simp only [fD, V3.F, reduceIte, pc19, rs19, oU, oC, evX, evY, evZ, forall_const, implies_true, initE, stepF, D.clean, mvF, moF, tkF, shF, ariF, ciF, catF, scF, ebF, eqF, eqOk, eqPr, enF, notF, ngF, cvF, csF, csbF, lenF, lenSF, ixF, iaF, PX.slot, iaAF, faF, ldF, D.mem, stF, bxF, mkSF, boundF, fldF, ixAF, mmF2, D.plain, D.isPure, optAll, D.dull, callVF, splice, D.cells, D.one, sets, resT, D.flat, D.flat0, D.simple, Nat.reduceBNe, Nat.reduceLT, reduceIte, Nat.reduceEqDiff, Nat.reduceAdd, Nat.reduceMul, Nat.reduceSub, Nat.reduceLeDiff, Int.reduceToNat, Int.reduceLT, Int.reduceLE, Int.reduceEq, Int.reduceNeg, Int.reduceSub, Int.reduceAdd, Int.reduceMul, stG_own, Bool.false_eq_true] at m1 m2 m3 ⊢
  repeat (refine ⟨by decide, ?_⟩)
  refine ⟨by omega, ?_⟩
  refine callF_of m1 ?_
  (refine ev ?_; try exact ⟨⟩)
  repeat (refine ⟨by decide, ?_⟩)
  refine ⟨by omega, ?_⟩
  refine callF_of m2 ?_
  (refine ev ?_; try exact ⟨⟩)
  repeat (refine ⟨by decide, ?_⟩)
  refine ⟨by omega, ?_⟩
  refine callF_of m3 ?_
  (refine ev ?_; try exact ⟨⟩)
  rfl
/-- a plan -/
structure Pl where
 r : Nat → Int
 h : Bool
def Pl.ok (p : Pl) : Prop := ∀ i, i < 12 → i8 (p.r i)
def Pl.D (p : Pl) : List D := [.int .i8 (p.r 0), .int .i8 (p.r 1), .int .i8 (p.r 2), .int .i8 (p.r 3), .int .i8 (p.r 4), .int .i8 (p.r 5), .int .i8 (p.r 6), .int .i8 (p.r 7), .int .i8 (p.r 8), .int .i8 (p.r 9), .int .i8 (p.r 10), .int .i8 (p.r 11), .bool p.h]
def Pl.v (p : Pl) (i : Nat) : V3 := ⟨vq p.h (p.r i), vq p.h (p.r (i + 1)), vq p.h (p.r (i + 2))⟩
def Pl.m (p : Pl) : M3 := ⟨⟨p.v 0, p.v 3, p.v 6⟩, p.v 9⟩
theorem Pl.cb (p : Pl) (i : Nat) : (p.v i).CB 2 12 := ⟨vq_cb _ _, vq_cb _ _, vq_cb _ _⟩
set_option maxHeartbeats 4000000 in
theorem Tryz.lmodel (p : Pl) (hp : p.ok) : Con Tryz.prog Tryz.L 17 [.agg p.D] (.agg p.m.F) := by
 have v0 : Con Tryz.prog Tryz.L 19 [.agg [.int .i8 (p.r 0), .int .i8 (p.r 1), .int .i8 (p.r 2)], .bool p.h] (.agg (p.v 0).F) := Tryz.lvec (p.r 0) (p.r 1) (p.r 2) p.h (hp 0 (by decide)) (hp 1 (by decide)) (hp 2 (by decide))
 have v1 : Con Tryz.prog Tryz.L 19 [.agg [.int .i8 (p.r 3), .int .i8 (p.r 4), .int .i8 (p.r 5)], .bool p.h] (.agg (p.v 3).F) := Tryz.lvec (p.r 3) (p.r 4) (p.r 5) p.h (hp 3 (by decide)) (hp 4 (by decide)) (hp 5 (by decide))
 have v2 : Con Tryz.prog Tryz.L 19 [.agg [.int .i8 (p.r 6), .int .i8 (p.r 7), .int .i8 (p.r 8)], .bool p.h] (.agg (p.v 6).F) := Tryz.lvec (p.r 6) (p.r 7) (p.r 8) p.h (hp 6 (by decide)) (hp 7 (by decide)) (hp 8 (by decide))
 have v3 : Con Tryz.prog Tryz.L 19 [.agg [.int .i8 (p.r 9), .int .i8 (p.r 10), .int .i8 (p.r 11)], .bool p.h] (.agg (p.v 9).F) := Tryz.lvec (p.r 9) (p.r 10) (p.r 11) p.h (hp 9 (by decide)) (hp 10 (by decide)) (hp 11 (by decide))
 refine rule17 Tryz.hL rfl rfl rfl ?_
 simp only [Pl.D, M3.F, Pl.m, V3.F, pc17, rs17, oU, oC, evX, evY, evZ, forall_const, implies_true, initE, stepF, D.clean, mvF, moF, tkF, shF, ariF, ciF, catF, scF, ebF, eqF, eqOk, eqPr, enF, notF, ngF, cvF, csF, csbF, lenF, lenSF, ixF, iaF, PX.slot, iaAF, faF, ldF, D.mem, stF, bxF, mkSF, boundF, fldF, ixAF, mmF2, D.plain, D.isPure, optAll, D.dull, callVF, splice, D.cells, D.one, sets, resT, D.flat, D.flat0, D.simple, Nat.reduceBNe, Nat.reduceLT, reduceIte, Nat.reduceEqDiff, Nat.reduceAdd, Nat.reduceMul, Nat.reduceSub, Nat.reduceLeDiff, Int.reduceToNat, Int.reduceLT, Int.reduceLE, Int.reduceEq, Int.reduceNeg, Int.reduceSub, Int.reduceAdd, Int.reduceMul, stG_own] at v0 v1 v2 v3 ⊢
 refine loopF_of (fun E => ∃ (w : List D) (i : Int), ((i = 0 ∧ w = [.int .i64 0, .int .i64 0, .int .i64 0, .int .i64 0, .int .i64 0, .int .i64 0, .int .i64 0, .int .i64 0, .int .i64 0, .int .i64 0, .int .i64 0, .int .i64 0, .int .i64 0, .int .i64 0, .int .i64 0, .int .i64 0, .int .i64 0, .int .i64 0, .int .i64 0, .int .i64 0, .int .i64 0, .int .i64 0, .int .i64 0, .int .i64 0]) ∨ (i = 1 ∧ w = [.int .i64 ((p.v 0).x).num, .int .i64 (((p.v 0).x).den : Int), .int .i64 ((p.v 0).y).num, .int .i64 (((p.v 0).y).den : Int), .int .i64 ((p.v 0).z).num, .int .i64 (((p.v 0).z).den : Int), .int .i64 0, .int .i64 0, .int .i64 0, .int .i64 0, .int .i64 0, .int .i64 0, .int .i64 0, .int .i64 0, .int .i64 0, .int .i64 0, .int .i64 0, .int .i64 0, .int .i64 0, .int .i64 0, .int .i64 0, .int .i64 0, .int .i64 0, .int .i64 0]) ∨ (i = 2 ∧ w = [.int .i64 ((p.v 0).x).num, .int .i64 (((p.v 0).x).den : Int), .int .i64 ((p.v 0).y).num, .int .i64 (((p.v 0).y).den : Int), .int .i64 ((p.v 0).z).num, .int .i64 (((p.v 0).z).den : Int), .int .i64 ((p.v 3).x).num, .int .i64 (((p.v 3).x).den : Int), .int .i64 ((p.v 3).y).num, .int .i64 (((p.v 3).y).den : Int), .int .i64 ((p.v 3).z).num, .int .i64 (((p.v 3).z).den : Int), .int .i64 0, .int .i64 0, .int .i64 0, .int .i64 0, .int .i64 0, .int .i64 0, .int .i64 0, .int .i64 0, .int .i64 0, .int .i64 0, .int .i64 0, .int .i64 0]) ∨ (i = 3 ∧ w = [.int .i64 ((p.v 0).x).num, .int .i64 (((p.v 0).x).den : Int), .int .i64 ((p.v 0).y).num, .int .i64 (((p.v 0).y).den : Int), .int .i64 ((p.v 0).z).num, .int .i64 (((p.v 0).z).den : Int), .int .i64 ((p.v 3).x).num, .int .i64 (((p.v 3).x).den : Int), .int .i64 ((p.v 3).y).num, .int .i64 (((p.v 3).y).den : Int), .int .i64 ((p.v 3).z).num, .int .i64 (((p.v 3).z).den : Int), .int .i64 ((p.v 6).x).num, .int .i64 (((p.v 6).x).den : Int), .int .i64 ((p.v 6).y).num, .int .i64 (((p.v 6).y).den : Int), .int .i64 ((p.v 6).z).num, .int .i64 (((p.v 6).z).den : Int), .int .i64 0, .int .i64 0, .int .i64 0, .int .i64 0, .int .i64 0, .int .i64 0])) ∧ E = [(1, .box true p.D), (2, .box true [.int .i64 0, .int .i64 0, .int .i64 0, .int .i64 0, .int .i64 0, .int .i64 0, .int .i64 0, .int .i64 0, .int .i64 0, .int .i64 0, .int .i64 0, .int .i64 0, .int .i64 0, .int .i64 0, .int .i64 0, .int .i64 0, .int .i64 0, .int .i64 0, .int .i64 0, .int .i64 0, .int .i64 0, .int .i64 0, .int .i64 0, .int .i64 0]), (3, .box true w), (4, .int .i64 i)])
  (fun E => match lk E 4 with | .int _ i => (3 - i).toNat | _ => 0) ⟨_, _, .inl ⟨rfl, rfl⟩, by simp [Pl.D]⟩ ?_
 rintro _ ⟨w, i, hw, rfl⟩
 rcases hw with ⟨rfl, rfl⟩ | ⟨rfl, rfl⟩ | ⟨rfl, rfl⟩ | ⟨rfl, rfl⟩
 ·simp only [Pl.D, evX, evY, evZ, forall_const, implies_true, initE, stepF, D.clean, mvF, moF, tkF, shF, ariF, ciF, catF, scF, ebF, eqF, eqOk, eqPr, enF, notF, ngF, cvF, csF, csbF, lenF, lenSF, ixF, iaF, PX.slot, iaAF, faF, ldF, D.mem, stF, bxF, mkSF, boundF, fldF, ixAF, mmF2, D.plain, D.isPure, optAll, D.dull, callVF, splice, D.cells, D.one, sets, resT, D.flat, D.flat0, D.simple, Nat.reduceBNe, Nat.reduceLT, reduceIte, Nat.reduceEqDiff, Nat.reduceAdd, Nat.reduceMul, Nat.reduceSub, Nat.reduceLeDiff, Int.reduceToNat, Int.reduceLT, Int.reduceLE, Int.reduceEq, Int.reduceNeg, Int.reduceSub, Int.reduceAdd, Int.reduceMul, stG_own]
  repeat (refine ⟨by decide, ?_⟩)
  refine callF_of v0 ?_
  (refine ev ?_; try exact ⟨⟩)
  repeat (refine ⟨by decide, ?_⟩)
  exact ⟨_, _, .inr (.inl ⟨rfl, rfl⟩), by simp [Pl.D]⟩
 ·simp only [Pl.D, evX, evY, evZ, forall_const, implies_true, initE, stepF, D.clean, mvF, moF, tkF, shF, ariF, ciF, catF, scF, ebF, eqF, eqOk, eqPr, enF, notF, ngF, cvF, csF, csbF, lenF, lenSF, ixF, iaF, PX.slot, iaAF, faF, ldF, D.mem, stF, bxF, mkSF, boundF, fldF, ixAF, mmF2, D.plain, D.isPure, optAll, D.dull, callVF, splice, D.cells, D.one, sets, resT, D.flat, D.flat0, D.simple, Nat.reduceBNe, Nat.reduceLT, reduceIte, Nat.reduceEqDiff, Nat.reduceAdd, Nat.reduceMul, Nat.reduceSub, Nat.reduceLeDiff, Int.reduceToNat, Int.reduceLT, Int.reduceLE, Int.reduceEq, Int.reduceNeg, Int.reduceSub, Int.reduceAdd, Int.reduceMul, stG_own]
  repeat (refine ⟨by decide, ?_⟩)
  refine callF_of v1 ?_
  (refine ev ?_; try exact ⟨⟩)
  repeat (refine ⟨by decide, ?_⟩)
  exact ⟨_, _, .inr (.inr (.inl ⟨rfl, rfl⟩)), by simp [Pl.D]⟩
 ·simp only [Pl.D, evX, evY, evZ, forall_const, implies_true, initE, stepF, D.clean, mvF, moF, tkF, shF, ariF, ciF, catF, scF, ebF, eqF, eqOk, eqPr, enF, notF, ngF, cvF, csF, csbF, lenF, lenSF, ixF, iaF, PX.slot, iaAF, faF, ldF, D.mem, stF, bxF, mkSF, boundF, fldF, ixAF, mmF2, D.plain, D.isPure, optAll, D.dull, callVF, splice, D.cells, D.one, sets, resT, D.flat, D.flat0, D.simple, Nat.reduceBNe, Nat.reduceLT, reduceIte, Nat.reduceEqDiff, Nat.reduceAdd, Nat.reduceMul, Nat.reduceSub, Nat.reduceLeDiff, Int.reduceToNat, Int.reduceLT, Int.reduceLE, Int.reduceEq, Int.reduceNeg, Int.reduceSub, Int.reduceAdd, Int.reduceMul, stG_own]
  repeat (refine ⟨by decide, ?_⟩)
  refine callF_of v2 ?_
  (refine ev ?_; try exact ⟨⟩)
  repeat (refine ⟨by decide, ?_⟩)
  exact ⟨_, _, .inr (.inr (.inr ⟨rfl, rfl⟩)), by simp [Pl.D]⟩
 ·simp only [Pl.D, evX, evY, evZ, forall_const, implies_true, initE, stepF, D.clean, mvF, moF, tkF, shF, ariF, ciF, catF, scF, ebF, eqF, eqOk, eqPr, enF, notF, ngF, cvF, csF, csbF, lenF, lenSF, ixF, iaF, PX.slot, iaAF, faF, ldF, D.mem, stF, bxF, mkSF, boundF, fldF, ixAF, mmF2, D.plain, D.isPure, optAll, D.dull, callVF, splice, D.cells, D.one, sets, resT, D.flat, D.flat0, D.simple, Nat.reduceBNe, Nat.reduceLT, reduceIte, Nat.reduceEqDiff, Nat.reduceAdd, Nat.reduceMul, Nat.reduceSub, Nat.reduceLeDiff, Int.reduceToNat, Int.reduceLT, Int.reduceLE, Int.reduceEq, Int.reduceNeg, Int.reduceSub, Int.reduceAdd, Int.reduceMul, stG_own]
  refine callF_of v3 ?_
  (refine ev ?_; try exact ⟨⟩)
  rfl
theorem V3.sf2 {v : V3} (h : v.CB 2 12) : v.SF := h.sf (by decide) (by decide) (by decide)
theorem Pl.sf (p : Pl) : p.m.SF := ⟨V3.sf2 (p.cb 0), V3.sf2 (p.cb 3), V3.sf2 (p.cb 6), V3.sf2 (p.cb 9)⟩
set_option maxHeartbeats 2000000 in
theorem Tryz.lmake (p : Pl) (hp : p.ok) : Con Tryz.prog Tryz.L 15 [.agg p.D] (.agg p.m.L) := by
 have mo := Tryz.lmodel p hp
 have af := Tryz.waffine p.m p.sf
 refine rule15 Tryz.hL rfl rfl rfl ?_
 simp only [Pl.D, M3.F, M3.L, pc15, rs15, oU, oC, evX, evY, evZ, forall_const, implies_true, initE, stepF, D.clean, mvF, moF, tkF, shF, ariF, ciF, catF, scF, ebF, eqF, eqOk, eqPr, enF, notF, ngF, cvF, csF, csbF, lenF, lenSF, ixF, iaF, PX.slot, iaAF, faF, ldF, D.mem, stF, bxF, mkSF, boundF, fldF, ixAF, mmF2, D.plain, D.isPure, optAll, D.dull, callVF, splice, D.cells, D.one, sets, resT, D.flat, D.flat0, D.simple, Nat.reduceBNe, Nat.reduceLT, reduceIte, Nat.reduceEqDiff, Nat.reduceAdd, Nat.reduceMul, Nat.reduceSub, Nat.reduceLeDiff, Int.reduceToNat, Int.reduceLT, Int.reduceLE, Int.reduceEq, Int.reduceNeg, Int.reduceSub, Int.reduceAdd, Int.reduceMul, stG_own] at mo af ⊢
 repeat (refine ⟨by decide, ?_⟩)
 refine callF_of mo ?_
 (refine ev ?_; try exact ⟨⟩)
 repeat (refine ⟨by decide, ?_⟩)
 refine callF_of af ?_
 (refine ev ?_; try exact ⟨⟩)
 all_goals rfl
/-- digits of numbers with a common denominator -/
theorem CB.rd {D k : Nat} {q : Rat} (h : CB D k q) (h0 : 0 < D) (h1 : D ≤ 1000000000) (h2 : k ≤ 1000000000) : rd q ≤ 10 := by
 obtain ⟨u, h3, h4⟩ := h
 have : NB 9 9 q := ⟨u, D, h0, h1, Nat.le_trans h3 h2, h4⟩
 have := rd_nb this
 omega
theorem V3.CB.rd {D k : Nat} {v : V3} (h : v.CB D k) (h0 : 0 < D) (h1 : D ≤ 1000000000) (h2 : k ≤ 1000000000) : v.rd 10 := ⟨h.1.rd h0 h1 h2, h.2.1.rd h0 h1 h2, h.2.2.rd h0 h1 h2⟩
theorem Pl.rd (p : Pl) : p.m.rd 10 := ⟨⟨(p.cb 0).rd (by decide) (by decide) (by decide), (p.cb 3).rd (by decide) (by decide) (by decide), (p.cb 6).rd (by decide) (by decide) (by decide)⟩, (p.cb 9).rd (by decide) (by decide) (by decide)⟩
end Go.Proofs

/-
 AFFINE: known() = true. Own work.
-/
namespace Go.Proofs
open Go Go.Pi Go.RowKit Go.Shelf Go.Ar Go.Mx

/-- the quarter turn of the examples -/
def turnM : M3 := ⟨⟨⟨0, -1, 0⟩, ⟨1, 0, 0⟩, ⟨0, 0, 1⟩⟩, ⟨2, 0, 0⟩⟩
theorem Tryz.lvecN (x y z : Int) (v : V3) (hx : x.natAbs ≤ 1000000000) (hy : y.natAbs ≤ 1000000000) (hz : z.natAbs ≤ 1000000000) (h1 : (x : Rat) = v.x) (h2 : (y : Rat) = v.y) (h3 : (z : Rat) = v.z) : Con Tryz.prog Tryz.L 22 [.int .i64 x, .int .i64 y, .int .i64 z] (.agg v.L) := by
 have h := Tryz.avec x y z hx hy hz
 rw [h1, h2, h3] at h
 exact h
theorem Tryz.lturn : Con Tryz.prog Tryz.L 57 [] (.agg turnM.L) := by
 have t1 := Tryz.lvecN 0 (-1) 0 turnM.g.a (by decide) (by decide) (by decide) (by decide +kernel) (by decide +kernel) (by decide +kernel)
 have t2 := Tryz.lvecN 1 0 0 turnM.g.b (by decide) (by decide) (by decide) (by decide +kernel) (by decide +kernel) (by decide +kernel)
 have t3 := Tryz.lvecN 0 0 1 turnM.g.c (by decide) (by decide) (by decide) (by decide +kernel) (by decide +kernel) (by decide +kernel)
 have t4 := Tryz.lvecN 2 0 0 turnM.s (by decide) (by decide) (by decide) (by decide +kernel) (by decide +kernel) (by decide +kernel)
 generalize turnM = m at *
 refine rule57 Tryz.hL rfl rfl rfl ?_
 simp only [V3.L, M3.L, pc57, rs57, oU, oC, evX, evY, evZ, forall_const, implies_true, initE, stepF, D.clean, mvF, moF, tkF, shF, ariF, ciF, catF, scF, ebF, eqF, eqOk, eqPr, enF, notF, ngF, cvF, csF, csbF, lenF, lenSF, ixF, iaF, PX.slot, iaAF, faF, ldF, D.mem, stF, bxF, mkSF, boundF, fldF, ixAF, mmF2, D.plain, D.isPure, optAll, D.dull, callVF, splice, D.cells, D.one, sets, resT, D.flat, D.flat0, D.simple, Nat.reduceBNe, Nat.reduceLT, reduceIte, Nat.reduceEqDiff, Nat.reduceAdd, Nat.reduceMul, Nat.reduceSub, Nat.reduceLeDiff, Int.reduceToNat, Int.reduceLT, Int.reduceLE, Int.reduceEq, Int.reduceNeg, Int.reduceSub, Int.reduceAdd, Int.reduceMul, stG_own] at t1 t2 t3 t4 ⊢
 refine callF_of t1 ?_
 (refine ev ?_; try exact ⟨⟩)
 refine callF_of t2 ?_
 (refine ev ?_; try exact ⟨⟩)
 refine callF_of t3 ?_
 (refine ev ?_; try exact ⟨⟩)
 refine callF_of t4 ?_
 (refine ev ?_; try exact ⟨⟩)
 rfl
/-! what Fixed needs -/
def M3.CB (D k : Nat) (m : M3) : Prop := m.g.a.CB D k ∧ m.g.b.CB D k ∧ m.g.c.CB D k ∧ m.s.CB D k
theorem V3.CB.at' {D k : Nat} {v : V3} (h : v.CB D k) (i : Nat) : Go.Proofs.CB D k (v.at' i) := by
 unfold V3.at'; split
 ·exact h.1
 ·split
  ·exact h.2.1
  ·exact h.2.2
theorem V3.CB.sub {D k l : Nat} {u v : V3} (h : u.CB D k) (h' : v.CB D l) : (u.sub v).CB D (k + l) := ⟨h.1.sub h'.1, h.2.1.sub h'.2.1, h.2.2.sub h'.2.2⟩
theorem cb20 : CB 2 2 0 := ⟨0, by decide, by decide +kernel⟩
theorem cb21 : CB 2 2 1 := ⟨2, by decide, by decide +kernel⟩
theorem M3.CB.fr {m : M3} (h : m.CB 2 12) (i : Nat) : (m.fr i).CB 2 14 := by
 have o : ∀ i, (G3.one.row i).CB 2 2 := fun i => by
  unfold G3.row; split
  ·exact ⟨cb21, cb20, cb20⟩
  ·split
   ·exact ⟨cb20, cb21, cb20⟩
   ·exact ⟨cb20, cb20, cb21⟩
 have r : (m.g.row i).CB 2 12 := by
  unfold G3.row; split
  ·exact h.1
  ·split
   ·exact h.2.1
   ·exact h.2.2.1
 exact r.sub (o i)
theorem M3.CB.rbs {m : M3} (h : m.CB 2 12) (w n : Nat) : RBs 2 3 n (wideM w m.fF fun i _ => m.fy i) := fun i _ => by
 refine ⟨2, by decide, by decide, fun j _ => ?_⟩
 unfold wideM
 split
 ·obtain ⟨u, h1, h2⟩ := (h.fr i).at' j
  exact ⟨u, Nat.le_trans h1 (by decide), h2⟩
 ·obtain ⟨u, h1, h2⟩ := (h.2.2.2.at' i).neg
  exact ⟨u, Nat.le_trans h1 (by decide), h2⟩
theorem M3.CB.rbF {m : M3} (h : m.CB 2 12) (n : Nat) : RBs 2 3 n m.fF := fun i _ => by
 refine ⟨2, by decide, by decide, fun j _ => ?_⟩
 obtain ⟨u, h1, h2⟩ := (h.fr i).at' j
 exact ⟨u, Nat.le_trans h1 (by decide), h2⟩
theorem M3.CB.rd {m : M3} (h : m.CB 2 12) : m.rd 10 := ⟨⟨h.1.rd (by decide) (by decide) (by decide), h.2.1.rd (by decide) (by decide) (by decide), h.2.2.1.rd (by decide) (by decide) (by decide)⟩, h.2.2.2.rd (by decide) (by decide) (by decide)⟩
theorem Pl.mcb (p : Pl) : p.m.CB 2 12 := ⟨p.cb 0, p.cb 3, p.cb 6, p.cb 9⟩
theorem Tryz.lFixed (m : M3) (h : m.CB 2 12) : Con Tryz.prog Tryz.L 14 [.agg m.L] (fixR (redM 3 (wideM 3 m.fF fun i _ => m.fy i) 3) (redM 3 m.fF 3)) :=
 Tryz.aFixed m 3 rfl (M3.rd_mono h.rd (by decide)) (h.rbs 3 4) (h.rbF 3)
/-! the quarter turn's fixed places -/
theorem turn_S : (redM 3 (wideM 3 turnM.fF fun i _ => turnM.fy i) 3).lead = [0, 1] := by decide +kernel
theorem turn_S0 : (redM 3 (wideM 3 turnM.fF fun i _ => turnM.fy i) 3).F 2 3 = 0 := by decide +kernel
theorem turn_P : solV (redM 3 (wideM 3 turnM.fF fun i _ => turnM.fy i) 3) 3 0 = 1 ∧ solV (redM 3 (wideM 3 turnM.fF fun i _ => turnM.fy i) 3) 3 1 = 1 ∧ solV (redM 3 (wideM 3 turnM.fF fun i _ => turnM.fy i) 3) 3 2 = 0 := by decide +kernel
theorem turn_K : (freeC (redM 3 turnM.fF 3).lead 3).length = 1 ∧ kerM (redM 3 turnM.fF 3) 3 0 0 = 0 ∧ kerM (redM 3 turnM.fF 3) 3 0 1 = 0 ∧ kerM (redM 3 turnM.fF 3) 3 0 2 = 1 := by decide +kernel
theorem turn_cb : turnM.CB 2 12 := by
 have z : CB 2 12 0 := cb20.mono (by decide)
 have o : CB 2 12 1 := cb21.mono (by decide)
 exact ⟨⟨z, ⟨-2, by decide, by decide +kernel⟩, z⟩, ⟨o, z, z⟩, ⟨z, z, o⟩, ⟨⟨4, by decide, by decide +kernel⟩, z, z⟩⟩
theorem Tryz.lturnFixed : Con Tryz.prog Tryz.L 14 [.agg turnM.L] (.tup [.agg (V3.L ⟨1, 1, 0⟩), .sl 1 (V3.L ⟨0, 0, 1⟩), .bool true, .int .i64 0]) := by
 have h := Tryz.lFixed turnM turn_cb
 have hS := turn_S; have hS0 := turn_S0; obtain ⟨p0, p1, p2⟩ := turn_P; obtain ⟨k0, k1, k2, k3⟩ := turn_K
 generalize redM 3 (wideM 3 turnM.fF fun i _ => turnM.fy i) 3 = S at *
 generalize redM 3 turnM.fF 3 = K at *
 have hok : okS 3 3 S := fun i h1 h2 => by
  rw [hS] at h1
  obtain rfl : i = 2 := by simp at h1; omega
  exact hS0
 rw [show fixR S K = _ from if_pos hok, k0] at h
 have e1 : V3.of (solV S 3) = ⟨1, 1, 0⟩ := by unfold V3.of; rw [p0, p1, p2]
 have e2 : fixK K 1 = V3.L ⟨0, 0, 1⟩ := by
  rw [fixK_succ]
  have : V3.of (kerM K 3 0) = ⟨0, 0, 1⟩ := by unfold V3.of; rw [k1, k2, k3]
  rw [this]
  rfl
 rw [e1, e2] at h
 exact h
def shearM : M3 := ⟨shG ⟨1, 0, 0⟩ ⟨0, 0, 2⟩, V3.zero⟩
theorem V3.ext' {u v : V3} (h1 : u.x = v.x) (h2 : u.y = v.y) (h3 : u.z = v.z) : u = v := by cases u; cases v; simp_all
set_option maxHeartbeats 4000000 in
theorem Tryz.lknown : Con Tryz.prog Tryz.L 13 [] (.bool true) := by
 have q : ∀ (x : Rat), rd x ≤ 2 → rd x ≤ 90 := fun x h => by omega
 have v1 := Tryz.lvecN 1 0 0 ⟨1, 0, 0⟩ (by decide) (by decide) (by decide) (by decide +kernel) (by decide +kernel) (by decide +kernel)
 have v2 := Tryz.lvecN 0 0 2 ⟨0, 0, 2⟩ (by decide) (by decide) (by decide) (by decide +kernel) (by decide +kernel) (by decide +kernel)
 have v3 := Tryz.lvecN 3 4 5 ⟨3, 4, 5⟩ (by decide) (by decide) (by decide) (by decide +kernel) (by decide +kernel) (by decide +kernel)
 have v4 := Tryz.lvecN 3 4 11 ⟨3, 4, 11⟩ (by decide) (by decide) (by decide) (by decide +kernel) (by decide +kernel) (by decide +kernel)
 have v5 := Tryz.lvecN 1 1 0 ⟨1, 1, 0⟩ (by decide) (by decide) (by decide) (by decide +kernel) (by decide +kernel) (by decide +kernel)
 have v6 := Tryz.lvecN 0 0 1 ⟨0, 0, 1⟩ (by decide) (by decide) (by decide) (by decide +kernel) (by decide +kernel) (by decide +kernel)
 have v7 := Tryz.lvecN 0 (-1) 0 ⟨0, -1, 0⟩ (by decide) (by decide) (by decide) (by decide +kernel) (by decide +kernel) (by decide +kernel)
 have sh : Con Tryz.prog Tryz.L 28 [.agg (V3.L ⟨1, 0, 0⟩), .agg (V3.L ⟨0, 0, 2⟩)] (.tup [.agg shearM.L, .int .i64 0]) := Tryz.aShear ⟨1, 0, 0⟩ ⟨0, 0, 2⟩ ⟨by decide +kernel, by decide +kernel, by decide +kernel⟩ ⟨by decide +kernel, by decide +kernel, by decide +kernel⟩ (by decide +kernel)
 have hA : (shearM.g.app ⟨3, 4, 5⟩).add shearM.s = ⟨3, 4, 11⟩ := V3.ext' (by decide +kernel) (by decide +kernel) (by decide +kernel)
 have ap := Tryz.aApply shearM ⟨3, 4, 5⟩ ⟨⟨⟨by decide +kernel, by decide +kernel, by decide +kernel⟩, ⟨by decide +kernel, by decide +kernel, by decide +kernel⟩, ⟨by decide +kernel, by decide +kernel, by decide +kernel⟩⟩, ⟨by decide +kernel, by decide +kernel, by decide +kernel⟩⟩ ⟨by decide +kernel, by decide +kernel, by decide +kernel⟩ (by rw [hA]; exact ⟨by decide +kernel, by decide +kernel, by decide +kernel⟩)
 rw [hA] at ap
 have tu := Tryz.lturn
 have fi := Tryz.lturnFixed
 have hB : turnM.g.tr.app ⟨1, 0, 0⟩ = ⟨0, -1, 0⟩ := V3.ext' (by decide +kernel) (by decide +kernel) (by decide +kernel)
 have hC : (0 : Rat) - V3.dot ⟨1, 0, 0⟩ turnM.s = -2 := by decide +kernel
 have pu := Tryz.aPull turnM ⟨1, 0, 0⟩ 0 (M3.rd_mono turn_cb.rd (by decide)) ⟨by decide +kernel, by decide +kernel, by decide +kernel⟩ (by decide +kernel) (fun h => absurd h.1 (by decide +kernel)) (by rw [hB]; exact fun h => absurd h.2.1 (by decide +kernel)) (by rw [hB]; exact ⟨by decide +kernel, by decide +kernel, by decide +kernel⟩) (by rw [hC]; decide +kernel)
 rw [hB, hC] at pu
 have r2 : rt (-2) = [45, 50] := by decide +kernel
 generalize turnM = T at *
 generalize shearM = M at *
 refine rule13 Tryz.hL rfl rfl rfl ?_
 simp only [V3.L, M3.L, pL, rt0, r2, pc13, rs13, oU, oC, evX, evY, evZ, forall_const, implies_true, initE, stepF, D.clean, mvF, moF, tkF, shF, ariF, ciF, catF, scF, ebF, eqF, eqOk, eqPr, enF, notF, ngF, cvF, csF, csbF, lenF, lenSF, ixF, iaF, PX.slot, iaAF, faF, ldF, D.mem, stF, bxF, mkSF, boundF, fldF, ixAF, mmF2, D.plain, D.isPure, optAll, D.dull, callVF, splice, D.cells, D.one, sets, resT, D.flat, D.flat0, D.simple, Nat.reduceBNe, Nat.reduceLT, reduceIte, Nat.reduceEqDiff, Nat.reduceAdd, Nat.reduceMul, Nat.reduceSub, Nat.reduceLeDiff, Int.reduceToNat, Int.reduceLT, Int.reduceLE, Int.reduceEq, Int.reduceNeg, Int.reduceSub, Int.reduceAdd, Int.reduceMul, stG_own] at v1 v2 v3 v4 v5 v6 v7 sh ap tu fi pu ⊢
 refine callF_of v1 ?_
 (refine ev ?_; try exact ⟨⟩)
 refine callF_of v2 ?_
 (refine ev ?_; try exact ⟨⟩)
 refine callF_of sh ?_
 (refine ev ?_; try exact ⟨⟩)
 refine callF_of v3 ?_
 (refine ev ?_; try exact ⟨⟩)
 refine callF_of ap ?_
 (refine ev ?_; try exact ⟨⟩)
 refine callF_of tu ?_
 (refine ev ?_; try exact ⟨⟩)
 refine callF_of fi ?_
 (refine ev ?_; try exact ⟨⟩)
 refine callF_of tu ?_
 (refine ev ?_; try exact ⟨⟩)
 refine callF_of v1 ?_
 (refine ev ?_; try exact ⟨⟩)
 refine callF_of pu ?_
 (refine ev ?_; try exact ⟨⟩)
 refine callF_of v4 ?_
 (refine ev ?_; try exact ⟨⟩)
 refine callF_of v5 ?_
 (refine ev ?_; try exact ⟨⟩)
 refine ⟨fun _ => ⟨by decide, ?_⟩, fun h => h rfl⟩
 refine callF_of v6 ?_
 (refine ev ?_; try exact ⟨⟩)
 refine callF_of v7 ?_
 (refine ev ?_; try exact ⟨⟩)
end Go.Proofs

/-
 AFFINE: numbers that are not right; AffineApplies; printed by tools/aff7.py. Own work.
-/
namespace Go.Proofs
open Go Go.Pi Go.RowKit Go.Shelf Go.Ar Go.Mx

end Go.Proofs

/-
 AFFINE: sizes of the inverse map; AffineInverts; printed by tools/aff8.py. Own work.
-/
namespace Go.Proofs
open Go Go.Pi Go.RowKit Go.Shelf Go.Ar Go.Mx

end Go.Proofs

/-
 AFFINE: planes with a wrong number; what must not vanish; AffinePlanes; printed by tools/aff9.py. Own work.
-/
namespace Go.Proofs
open Go Go.Pi Go.RowKit Go.Shelf Go.Ar Go.Mx

/-- a plane whose offset is any text -/
def pT (v : V3) (b : List UInt8) : List D := [.str (rt v.x), .str (rt v.y), .str (rt v.z), .str b]
theorem V3.CB.col {D k : Nat} {g : G3} (ha : g.a.CB D k) (hb : g.b.CB D k) (hc : g.c.CB D k) (i : Nat) : (g.col i).CB D k := ⟨ha.at' i, hb.at' i, hc.at' i⟩
end Go.Proofs

/-
 AFFINE: what is kept: fixed places with the free directions, a plane pulled and pushed (plain, with the contracts). Own work.
-/
namespace Go.Proofs
open Go Go.Pi Go.RowKit Go.Shelf Go.Ar Go.Mx

/-- the place with the same multiple of the first directions -/
def accP (P : V3) (q : Rat) (K : Nat → V3) : Nat → V3
 | 0 => P
 | i + 1 => ⟨(accP P q K i).x + q * (K i).x, (accP P q K i).y + q * (K i).y, (accP P q K i).z + q * (K i).z⟩
/-- sizes -/
def V3.nb (k l : Nat) (v : V3) : Prop := NB k l v.x ∧ NB k l v.y ∧ NB k l v.z
theorem V3.nb_rd {k l : Nat} {v : V3} (h : v.nb k l) (h1 : l ≤ k) : v.rd (k + 1) := ⟨rd_of_nb (h.1.mono (Nat.le_refl _) h1), rd_of_nb (h.2.1.mono (Nat.le_refl _) h1), rd_of_nb (h.2.2.mono (Nat.le_refl _) h1)⟩
/-! a plane pulled and pushed -/
end Go.Proofs

/-
 AFFINE: what is known of Fixed, its sizes kept from the eye of the elaborator. Own work.
-/
namespace Go.Proofs
open Go Go.Pi Go.RowKit Go.Shelf Go.Ar Go.Mx

end Go.Proofs

/-
 AFFINE: AffineKeeps; printed by tools/aff10.py. Own work.
-/
namespace Go.Proofs
open Go Go.Pi Go.RowKit Go.Shelf Go.Ar Go.Mx

theorem fixK_at {K : RSt} {n k : Nat} (h : k < n) : List.drop (k * 3) (fixK K n) = (V3.of (kerM K 3 k)).L ++ List.drop (k * 3 + 3) (fixK K n) := by
 unfold fixK
 exact tsD_drop (v := (V3.of (kerM K 3 k)).t) (lst_at (fun i => (V3.of (kerM K 3 i)).t) h)
theorem fix_take {K : RSt} {n k : Nat} (h : k < n) : List.take 3 (List.drop (k * 3) (fixK K n)) = [.str (rt (kerM K 3 k 0)), .str (rt (kerM K 3 k 1)), .str (rt (kerM K 3 k 2))] := by
 rw [fixK_at h]; rfl
end Go.Proofs

/-
 AFFINE: the reference's fractions with wider bounds; sizes in the elimination. Own work.
-/
namespace Go.Proofs
open Go Go.Pi Go.RowKit Go.Shelf Go.Ar Go.Mx

set_option maxHeartbeats 1000000 in
theorem Tryz.fsubW (p q : Rat) (h : FB 307328 307328 p) (h' : FB 200000000000 200000000000 q) : Con Tryz.prog Tryz.L 68 [fD p, fD q] (fD (p - q)) := by
 obtain ⟨h1, h2⟩ := h
 obtain ⟨h3, h4⟩ := h'
 have b1 := mb h1 (show (q.den : Int).natAbs ≤ 200000000000 by omega)
 have b2 := mb h3 (show (p.den : Int).natAbs ≤ 307328 by omega)
 have b3 := mb (show (p.den : Int).natAbs ≤ 307328 by omega) (show (q.den : Int).natAbs ≤ 200000000000 by omega)
 have hnz : (p.den : Int) * (q.den : Int) ≠ 0 := by
  have := Nat.mul_pos p.den_pos q.den_pos
  rw [← Int.natCast_mul]; omega
 have hm := Tryz.fmake (p.num * q.den - q.num * p.den) ((p.den : Int) * q.den) hnz (by omega) (by omega)
 rw [fr_sub] at hm
 refine rule68 Tryz.hL rfl rfl rfl ?_
 simp only [fD, pc68, rs68, oU, oC, evX, evY, evZ, forall_const, implies_true, initE, stepF, D.clean, mvF, moF, tkF, shF, ariF, ciF, catF, scF, ebF, eqF, eqOk, eqPr, enF, notF, ngF, cvF, csF, csbF, lenF, lenSF, ixF, iaF, PX.slot, iaAF, faF, ldF, D.mem, stF, bxF, mkSF, boundF, fldF, ixAF, mmF2, D.plain, D.isPure, optAll, D.dull, callVF, splice, D.cells, D.one, sets, resT, D.flat, D.flat0, D.simple, Nat.reduceBNe, Nat.reduceLT, reduceIte, Nat.reduceEqDiff, Nat.reduceAdd, Nat.reduceMul, Nat.reduceSub, Nat.reduceLeDiff, Int.reduceToNat, Int.reduceLT, Int.reduceLE, Int.reduceEq, Int.reduceNeg, Int.reduceSub, Int.reduceAdd, Int.reduceMul, stG_own] at hm ⊢
 refine ⟨by omega, by omega, by omega, by omega, ?_⟩
 refine callF_of hm ?_
 (refine ev ?_; try exact ⟨⟩)
 rfl
set_option maxHeartbeats 1000000 in
theorem Tryz.ftextW (q : Rat) (h : FB 200000000000 200000000000 q) : Con Tryz.prog Tryz.L 40 [fD q] (.str (rt q)) := by
 obtain ⟨h1, h2⟩ := h
 have hml := dd_len_mono (m := q.num.natAbs) (n := 9223372036854775807) (by omega)
 have hml2 := dd_len_mono (m := q.den) (n := 9223372036854775807) (by omega)
 have hl19 : (dd 9223372036854775807).length ≤ 20 := by decide +kernel
 have hab : (if 0 - q.num > q.num then 0 - q.num else q.num) = ((q.num.natAbs : Nat) : Int) := by split <;> omega
 have hg := Tryz.fdigits q.num.natAbs (by omega)
 have hg2 := Tryz.fdigits q.den (by omega)
 have ht := rt_text q
 have hd := q.den_pos
 refine rule40 Tryz.hL rfl rfl rfl ?_
 simp only [fD, pc40, rs40, oU, oC, evX, evY, evZ, forall_const, implies_true, initE, stepF, D.clean, mvF, moF, tkF, shF, ariF, ciF, catF, scF, ebF, eqF, eqOk, eqPr, enF, notF, ngF, cvF, csF, csbF, lenF, lenSF, ixF, iaF, PX.slot, iaAF, faF, ldF, D.mem, stF, bxF, mkSF, boundF, fldF, ixAF, mmF2, D.plain, D.isPure, optAll, D.dull, callVF, splice, D.cells, D.one, sets, resT, D.flat, D.flat0, D.simple, Nat.reduceBNe, Nat.reduceLT, reduceIte, Nat.reduceEqDiff, Nat.reduceAdd, Nat.reduceMul, Nat.reduceSub, Nat.reduceLeDiff, Int.reduceToNat, Int.reduceLT, Int.reduceLE, Int.reduceEq, Int.reduceNeg, Int.reduceSub, Int.reduceAdd, Int.reduceMul, stG_own]
 rw [hab]
 refine ⟨by omega, ?_⟩
 refine callF_of hg ?_
 generalize q.num = a at *
 generalize q.den = b at *
 (refine ev ?_; try exact ⟨⟩)
 refine ⟨fun h3 => ?_, fun h3 => ?_⟩
 ·rw [if_pos h3] at ht
  refine ⟨by omega, fun h4 => ?_, fun h4 => ?_⟩
  ·rw [if_pos (by omega)] at ht
   refine callF_of hg2 ?_
   (refine ev ?_; try exact ⟨⟩)
   exact ⟨by omega, by first | omega | (simp only [List.length_cons]; omega), by rw [ht]; rfl⟩
  ·rw [if_neg (by omega), List.append_nil] at ht
   rw [ht]; rfl
 ·rw [if_neg h3] at ht
  refine ⟨fun h4 => ?_, fun h4 => ?_⟩
  ·rw [if_pos (by omega)] at ht
   refine callF_of hg2 ?_
   (refine ev ?_; try exact ⟨⟩)
   exact ⟨by omega, by first | omega | (simp only [List.length_cons]; omega), by rw [ht]; rfl⟩
  ·rw [if_neg (by omega), List.append_nil] at ht
   rw [ht]; rfl
theorem FB.mono {k l k' l' : Nat} {q : Rat} (h : FB k l q) (h1 : k ≤ k') (h2 : l ≤ l') : FB k' l' q := ⟨Nat.le_trans h.1 h1, Nat.le_trans h.2 h2⟩
theorem FB.sf {q : Rat} (h : FB 307328 307328 q) : SF q := ⟨Nat.le_trans h.1 (by decide), Nat.le_trans h.2 (by decide)⟩
theorem FB.mul {p q : Rat} (h : FB 307328 307328 p) (h' : FB 307328 307328 q) : FB 200000000000 200000000000 (p * q) := by
 have h1 := rat_nd p; have h2 := rat_nd q
 refine fb_of (u := p.num * q.num) (d := p.den * q.den) (Nat.mul_pos p.den_pos q.den_pos) ?_ ?_ ?_
 ·exact Nat.le_trans (Nat.mul_le_mul h.2 h'.2) (by decide)
 ·exact Nat.le_trans (mb h.1 h'.1) (by decide)
 ·rw [Rat.natCast_mul, Rat.intCast_mul, ← h1, ← h2]; grind
/-- a row with one common denominator -/
def RW (K m : Nat) (r : Nat → Rat) : Prop := ∃ d : Nat, 0 < d ∧ d ≤ K ∧ ∀ j, j < m → ∃ u : Int, u.natAbs ≤ K ∧ r j * (d : Rat) = (u : Rat)
theorem RW.mono {K K' m : Nat} {r : Nat → Rat} (h : RW K m r) (hk : K ≤ K') : RW K' m r := by
 obtain ⟨d, h1, h2, h3⟩ := h
 exact ⟨d, h1, Nat.le_trans h2 hk, fun j hj => (h3 j hj).imp fun u e => ⟨Nat.le_trans e.1 hk, e.2⟩⟩
theorem RW.fb {K m : Nat} {r : Nat → Rat} (h : RW K m r) {j : Nat} (hj : j < m) : FB K K (r j) := by
 obtain ⟨d, h1, h2, h3⟩ := h
 obtain ⟨u, e1, e2⟩ := h3 j hj
 exact fb_of h1 h2 e1 e2
theorem RW.div {K m c : Nat} {r : Nat → Rat} (h : RW K m r) (hc : c < m) (h0 : r c ≠ 0) : RW K m (fun j => r j / r c) := by
 obtain ⟨d, h1, h2, h3⟩ := h
 obtain ⟨uc, g1, g2⟩ := h3 c hc
 have hd : (d : Rat) ≠ 0 := fun e => by
  have : d = 0 := by exact_mod_cast e
  omega
 have huc : uc ≠ 0 := fun e => by
  rw [e] at g2
  rcases Rat.mul_eq_zero.1 (g2.trans (by rfl : ((0 : Int) : Rat) = 0)) with h | h
  ·exact h0 h
  ·exact hd h
 have hi := Rat.mul_inv_cancel _ h0
 refine ⟨uc.natAbs, by omega, g1, fun j hj => ?_⟩
 obtain ⟨u, e1, e2⟩ := h3 j hj
 rcases Int.lt_or_le uc 0 with hn | hp
 ·refine ⟨-u, by rw [Int.natAbs_neg]; exact e1, ?_⟩
  have e3 : ((uc.natAbs : Nat) : Rat) = -(uc : Rat) := by
   rw [← Rat.intCast_neg, ← Rat.intCast_natCast]; congr 1; omega
  show r j / r c * _ = _
  rw [e3, Rat.div_def, Rat.intCast_neg, ← e2, ← g2]
  generalize (r c)⁻¹ = z at *
  grind
 ·refine ⟨u, e1, ?_⟩
  have e3 : ((uc.natAbs : Nat) : Rat) = (uc : Rat) := by
   rw [← Rat.intCast_natCast]; congr 1; omega
  show r j / r c * _ = _
  rw [e3, Rat.div_def, ← e2, ← g2]
  generalize (r c)⁻¹ = z at *
  grind
theorem RW.sub {K m c : Nat} {r p : Nat → Rat} (h : RW K m r) (h' : RW K m p) (hc : c < m) : RW (2 * (K * K)) m (fun j => r j - r c * p j) := by
 obtain ⟨d, h1, h2, h3⟩ := h
 obtain ⟨e, g1, g2, g3⟩ := h'
 obtain ⟨uc, a1, a2⟩ := h3 c hc
 have hb := Nat.mul_le_mul h2 g2
 refine ⟨d * e, Nat.mul_pos h1 g1, by omega, fun j hj => ?_⟩
 obtain ⟨u, b1, b2⟩ := h3 j hj
 obtain ⟨v, c1, c2⟩ := g3 j hj
 refine ⟨u * e - uc * v, ?_, ?_⟩
 ·have e1 : (u * (e : Int)).natAbs ≤ K * K := by
   rw [Int.natAbs_mul, Int.natAbs_natCast]
   exact Nat.mul_le_mul b1 g2
  have e2 : (uc * v).natAbs ≤ K * K := by
   rw [Int.natAbs_mul]
   exact Nat.mul_le_mul a1 c1
  have e3 := Int.natAbs_sub_le (u * (e : Int)) (uc * v)
  omega
 ·rw [Rat.natCast_mul, Rat.intCast_sub, Rat.intCast_mul, Rat.intCast_mul, Rat.intCast_natCast]
  grind
def RWs (K n m : Nat) (F : Mtx) : Prop := ∀ i, i < n → RW K m (F i)
theorem sq_mono (K : Nat) : K ≤ 2 * (K * K) := by
 rcases Nat.eq_zero_or_pos K with rfl | h
 ·decide
 ·have := Nat.le_mul_of_pos_left K h; omega
theorem rws_stp {K n m c : Nat} {s : RSt} (h : RWs K n m s.F) (hl : s.lead.length ≤ n) (hc : c < m) : RWs (2 * (K * K)) n m (stpM n s c).F := by
 by_cases hf : lookM s.F c (n - s.lead.length) s.lead.length < n
 ·rw [stp_found hf]
  obtain ⟨hp, hk⟩ := (look_spec hl).1 hf
  generalize lookM s.F c (n - s.lead.length) s.lead.length = p at *
  intro i hi
  have e : (clrM (sclM (swpM s.F s.lead.length p) s.lead.length c) s.lead.length c) i = fun j => if i = s.lead.length then s.F p j / s.F p c else swpM s.F s.lead.length p i j - swpM s.F s.lead.length p i c * (s.F p j / s.F p c) := by
   funext j; exact clr_at ..
  show RW _ _ ((clrM (sclM (swpM s.F s.lead.length p) s.lead.length c) s.lead.length c) i)
  rw [e]
  have hd := (h p hf).div hc hp
  by_cases e2 : i = s.lead.length
  ·simp only [if_pos e2]; exact hd.mono (sq_mono K)
  ·simp only [if_neg e2]
   have hs : RW K m (swpM s.F s.lead.length p i) := by
    unfold swpM
    split
    ·exact h p hf
    ·split
     ·exact h _ (by omega)
     ·exact h i hi
   exact hs.sub hd hc
 ·rw [stp_not hf]
  exact fun i hi => (h i hi).mono (sq_mono K)
def kB : Nat → Nat
 | 0 => 14
 | w + 1 => 2 * (kB w * kB w)
theorem rws_red {n m : Nat} {F : Mtx} (h : RWs 14 n m F) : ∀ {w : Nat}, w ≤ m → RWs (kB w) n m (redM n F w).F
 | 0, _ => h
 | w + 1, hw => rws_stp (rws_red h (w := w) (by omega)) (good_red n F w).len (by omega : w < m)
theorem kB_mono {a b : Nat} (h : a ≤ b) : kB a ≤ kB b := by
 induction b with
 | zero => obtain rfl : a = 0 := by omega
           exact Nat.le_refl _
 | succ b ih =>
   rcases Nat.lt_or_ge a (b + 1) with h1 | h1
   ·exact Nat.le_trans (ih (by omega)) (sq_mono _)
   ·obtain rfl : a = b + 1 := by omega
    exact Nat.le_refl _
/-- the row to which the search leads -/
theorem look_eq {F : Mtx} {n c r p : Nat} (h1 : r ≤ p) (h2 : p < n) (h3 : F p c ≠ 0) (h4 : ∀ j, r ≤ j → j < p → F j c = 0) : lookM F c (n - r) r = p := by
 have hs := look_spec (F := F) (n := n) (k := r) (c := c) (by omega)
 have hg := look_ge F c (n - r) r
 rcases Nat.lt_trichotomy (lookM F c (n - r) r) p with h | h | h
 ·exact absurd (h4 _ hg.1 h) (hs.1 (by omega)).1
 ·exact h
 ·exact absurd (look_before F c (n - r) r p h1 h) h3
theorem look_no {F : Mtx} {n c r : Nat} (hr : r ≤ n) (h4 : ∀ j, r ≤ j → j < n → F j c = 0) : ¬lookM F c (n - r) r < n := fun h => by
 have hs := (look_spec (F := F) (n := n) (k := r) (c := c) hr).1 h
 exact hs.1 (h4 _ hs.2 h)
end Go.Proofs

/-
 AFFINE: a matrix of pairs in a box. Own work.
-/
namespace Go.Proofs
open Go Go.Pi Go.RowKit Go.Shelf Go.Ar Go.Mx

abbrev PM := Nat → Nat → Int × Int
def pc2 (x : Int × Int) : List D := [.int .i64 x.1, .int .i64 x.2]
def rowP (r : Nat → Int × Int) : List D := [.int .i64 (r 0).1, .int .i64 (r 0).2, .int .i64 (r 1).1, .int .i64 (r 1).2, .int .i64 (r 2).1, .int .i64 (r 2).2, .int .i64 (r 3).1, .int .i64 (r 3).2]
def cellsP (G : PM) : List D := rowP (G 0) ++ rowP (G 1) ++ rowP (G 2)
def setP (G : PM) (i k : Nat) (x : Int × Int) : PM := fun a b => if a = i ∧ b = k then x else G a b
def setR (G : PM) (i : Nat) (r : Nat → Int × Int) : PM := fun a => if a = i then r else G a
def prq (q : Rat) : Int × Int := (q.num, (q.den : Int))
def qP (F : Mtx) : PM := fun i j => prq (F i j)
theorem cellsP_congr {G G' : PM} (h : ∀ a b, a < 3 → b < 4 → G a b = G' a b) : cellsP G = cellsP G' := by
 unfold cellsP rowP
 simp only [h 0 0 (by decide) (by decide), h 0 1 (by decide) (by decide), h 0 2 (by decide) (by decide), h 0 3 (by decide) (by decide), h 1 0 (by decide) (by decide), h 1 1 (by decide) (by decide), h 1 2 (by decide) (by decide), h 1 3 (by decide) (by decide), h 2 0 (by decide) (by decide), h 2 1 (by decide) (by decide), h 2 2 (by decide) (by decide), h 2 3 (by decide) (by decide)]
theorem cellsP_len (G : PM) : (cellsP G).length = 24 := rfl
theorem cases3 {P : Nat → Prop} (h0 : P 0) (h1 : P 1) (h2 : P 2) {i : Nat} (hi : i < 3) : P i := by
 rcases i with _ | _ | _ | i
 ·exact h0
 ·exact h1
 ·exact h2
 ·omega
theorem cases4 {P : Nat → Prop} (h0 : P 0) (h1 : P 1) (h2 : P 2) (h3 : P 3) {i : Nat} (hi : i < 4) : P i := by
 rcases i with _ | _ | _ | _ | i
 ·exact h0
 ·exact h1
 ·exact h2
 ·exact h3
 ·omega
theorem ld2P (G : PM) {i k : Nat} (hi : i < 3) (hk : k < 4) : ofCells true 2 ((cellsP G).drop (i * 8 + k * 2)) = some (.agg [.int .i64 (G i k).1, .int .i64 (G i k).2]) := by
 refine cases3 (P := fun i => ofCells true 2 ((cellsP G).drop (i * 8 + k * 2)) = some (.agg [.int .i64 (G i k).1, .int .i64 (G i k).2])) ?_ ?_ ?_ hi <;>
 ·refine cases4 (P := fun k => ofCells true 2 ((cellsP G).drop (_ * 8 + k * 2)) = some (.agg [.int .i64 (G _ k).1, .int .i64 (G _ k).2])) ?_ ?_ ?_ ?_ hk <;> rfl
theorem ld1P (G : PM) {i k : Nat} (hi : i < 3) (hk : k < 4) : ofCells false 1 ((cellsP G).drop (i * 8 + k * 2)) = some (.int .i64 (G i k).1) := by
 refine cases3 (P := fun i => ofCells false 1 ((cellsP G).drop (i * 8 + k * 2)) = some (.int .i64 (G i k).1)) ?_ ?_ ?_ hi <;>
 ·refine cases4 (P := fun k => ofCells false 1 ((cellsP G).drop (_ * 8 + k * 2)) = some (.int .i64 (G _ k).1)) ?_ ?_ ?_ ?_ hk <;> rfl
theorem ld8P (G : PM) {i : Nat} (hi : i < 3) : ofCells true 8 ((cellsP G).drop (i * 8)) = some (.agg (rowP (G i))) := by
 refine cases3 (P := fun i => ofCells true 8 ((cellsP G).drop (i * 8)) = some (.agg (rowP (G i)))) ?_ ?_ ?_ hi <;> rfl
theorem st2P (G : PM) {i k : Nat} (x y : Int) (hi : i < 3) (hk : k < 4) : splice (cellsP G) (i * 8 + k * 2) [.int .i64 x, .int .i64 y] = cellsP (setP G i k (x, y)) := by
 refine cases3 (P := fun i => splice (cellsP G) (i * 8 + k * 2) [.int .i64 x, .int .i64 y] = cellsP (setP G i k (x, y))) ?_ ?_ ?_ hi <;>
 ·refine cases4 (P := fun k => splice (cellsP G) (_ * 8 + k * 2) [.int .i64 x, .int .i64 y] = cellsP (setP G _ k (x, y))) ?_ ?_ ?_ ?_ hk <;> rfl
theorem st8P (G : PM) {i : Nat} (r : Nat → Int × Int) (hi : i < 3) : splice (cellsP G) (i * 8) (rowP r) = cellsP (setR G i r) := by
 refine cases3 (P := fun i => splice (cellsP G) (i * 8) (rowP r) = cellsP (setR G i r)) ?_ ?_ ?_ hi <;> rfl
theorem stP {G : PM} {i k : Nat} {x y : Int} (hi : i < 3) (hk : k < 4) : List.take (i * 8 + k * 2) (cellsP G) ++ [D.int .i64 x, .int .i64 y] ++ List.drop (i * 8 + k * 2 + 2) (cellsP G) = cellsP (setP G i k (x, y)) := st2P G x y hi hk
theorem stR {G : PM} {i : Nat} {r : Nat → Int × Int} (hi : i < 3) : List.take (i * 8) (cellsP G) ++ rowP r ++ List.drop (i * 8 + 8) (cellsP G) = cellsP (setR G i r) := st8P G r hi
theorem ldP {G : PM} {o i k t : Nat} {N : EP} {E : Env} (hi : i < 3) (hk : k < 4) (ho : o = i * 8 + k * 2) : ldC true 2 ((cellsP G).drop o) t N E = N (st1 E t (.agg [.int .i64 (G i k).1, .int .i64 (G i k).2])) := by
 subst ho; unfold ldC; rw [ld2P G hi hk]; simp
theorem ldN {G : PM} {o i k t : Nat} {N : EP} {E : Env} (hi : i < 3) (hk : k < 4) (ho : o = i * 8 + k * 2) : ldC false 1 ((cellsP G).drop o) t N E = N (st1 E t (.int .i64 (G i k).1)) := by
 subst ho; unfold ldC; rw [ld1P G hi hk]; simp
theorem ldR {G : PM} {o i t : Nat} {N : EP} {E : Env} (hi : i < 3) (ho : o = i * 8) : ldC true 8 ((cellsP G).drop o) t N E = N (st1 E t (.agg (rowP (G i)))) := by
 subst ho; unfold ldC; rw [ld8P G hi]; simp
theorem rowP_len (r : Nat → Int × Int) : (rowP r).length = 8 := rfl
theorem rowP_one (r : Nat → Int × Int) : (rowP r).all D.one = true := rfl
theorem swp_cells (F : Mtx) (r p : Nat) : setR (setR (qP F) r (qP F p)) p (qP F r) = qP (swpM F r p) := by
 funext a
 unfold setR
 by_cases h : a = p
 ·subst h
  rw [if_pos rfl]
  funext b
  show prq (F r b) = prq (swpM F r a a b)
  unfold swpM
  by_cases h2 : a = r
  ·subst h2; rw [if_pos rfl]
  ·rw [if_neg h2, if_pos rfl]
 ·rw [if_neg h]
  funext b
  by_cases h2 : a = r
  ·subst h2; rw [if_pos rfl]; show prq (F p b) = prq (swpM F a p a b); unfold swpM; rw [if_pos rfl]
  ·rw [if_neg h2]; show prq (F a b) = prq (swpM F r p a b); unfold swpM; rw [if_neg h2, if_neg h]
/-- what stands at the leading columns -/
def pvI (lead : List Nat) (j : Nat) : Int := match posn lead j with
 | some t => (t : Int)
 | none => -1
def pvC (lead : List Nat) : List D := [.int .i64 (pvI lead 0), .int .i64 (pvI lead 1), .int .i64 (pvI lead 2)]
theorem pv_none {lead : List Nat} {j : Nat} (h : j ∉ lead) : pvI lead j = -1 := by unfold pvI; rw [posn_none.2 h]
theorem pv_app {lead : List Nat} {c : Nat} (h : c ∉ lead) (j : Nat) : pvI (lead ++ [c]) j = if j = c then (lead.length : Int) else pvI lead j := by
 unfold pvI posn
 rw [List.findIdx?_append]
 by_cases e : j = c
 ·subst e
  rw [if_pos rfl, show List.findIdx? (· == j) lead = none from posn_none.2 h]
  simp
 ·rw [if_neg e]
  have h1 : (c == j) = false := by simpa using fun h => e h.symm
  cases List.findIdx? (· == j) lead <;> simp [h1]
theorem pvC_set {lead : List Nat} {c : Nat} (hc : c < 3) (h : c ∉ lead) : splice (pvC lead) c [.int .i64 (lead.length : Int)] = pvC (lead ++ [c]) := by
 unfold pvC
 rw [pv_app h, pv_app h, pv_app h]
 refine cases3 (P := fun c => splice [D.int .i64 (pvI lead 0), .int .i64 (pvI lead 1), .int .i64 (pvI lead 2)] c [.int .i64 (lead.length : Int)] = [.int .i64 (if 0 = c then (lead.length : Int) else pvI lead 0), .int .i64 (if 1 = c then (lead.length : Int) else pvI lead 1), .int .i64 (if 2 = c then (lead.length : Int) else pvI lead 2)]) ?_ ?_ ?_ hc <;> rfl
theorem pvC_ld (lead : List Nat) {c : Nat} (hc : c < 3) {t : Nat} {N : EP} {E : Env} : ldC false 1 ((pvC lead).drop c) t N E = N (st1 E t (.int .i64 (pvI lead c))) := by
 have h : ofCells false 1 ((pvC lead).drop c) = some (.int .i64 (pvI lead c)) := by
  refine cases3 (P := fun c => ofCells false 1 ((pvC lead).drop c) = some (.int .i64 (pvI lead c))) ?_ ?_ ?_ hc <;> rfl
 unfold ldC; rw [h]; simp
/-- vectors of fractions in a box -/
def updV (f : Nat → Rat) (i : Nat) (q : Rat) : Nat → Rat := fun j => if j = i then q else f j
theorem stV {f : Nat → Rat} {i : Nat} {q : Rat} (hi : i < 3) : List.take (i * 2) (V3.of f).F ++ [D.int .i64 q.num, D.int .i64 (q.den : Int)] ++ List.drop (i * 2 + 2) (V3.of f).F = (V3.of (updV f i q)).F := by
 refine cases3 (P := fun i => List.take (i * 2) (V3.of f).F ++ [D.int .i64 q.num, D.int .i64 (q.den : Int)] ++ List.drop (i * 2 + 2) (V3.of f).F = (V3.of (updV f i q)).F) ?_ ?_ ?_ hi <;> rfl
theorem ofF_congr {f g : Nat → Rat} (h : ∀ j, j < 3 → f j = g j) : V3.of f = V3.of g := by
 unfold V3.of; rw [h 0 (by decide), h 1 (by decide), h 2 (by decide)]
theorem ofF_len (f : Nat → Rat) : (V3.of f).F.length = 6 := rfl
theorem ofF_one (f : Nat → Rat) : (V3.of f).F.all D.one = true := rfl
theorem ld6V (f : Nat → Rat) : ofCells true 6 (V3.of f).F = some (.agg (V3.of f).F) := rfl
/-- the kernel's numbers at the leading columns -/
def kN (S : RSt) (c j : Nat) : Rat := match posn S.lead j with
 | some t => 0 - S.F t c
 | none => 0
theorem kN_ker (S : RSt) (c j : Nat) : kerV S c j = if j = c then 1 else kN S c j := by
 unfold kerV kN
 split
 ·rfl
 ·cases posn S.lead j with
  | none => rfl
  | some t => show -S.F t c = 0 - S.F t c; grind
/-- the matrix with the right side at the end -/
def M3.W (m : M3) : Mtx := wideM 3 m.fF fun i _ => m.fy i
theorem M3.CB.rws {m : M3} (h : m.CB 2 12) : RWs 14 3 4 m.W := fun i _ => by
 have h2 := h.fr i
 refine ⟨2, by decide, by decide, fun j _ => ?_⟩
 show ∃ u : Int, u.natAbs ≤ 14 ∧ m.W i j * ((2 : Nat) : Rat) = (u : Rat)
 unfold M3.W wideM
 split
 ·exact h2.at' j
 ·obtain ⟨u, e1, e2⟩ := h.2.2.2.at' i
  refine ⟨-u, by omega, ?_⟩
  show -(m.s.at' i) * _ = _
  rw [Rat.intCast_neg, ← e2]; grind
end Go.Proofs

/-
 AFFINE: the reference's Fixed. Own work.
-/
namespace Go.Proofs
open Go Go.Pi Go.RowKit Go.Shelf Go.Ar Go.Mx

def freeF (S : RSt) (l : List Nat) : List D := l.flatMap fun d => (V3.of (kerV S d)).F
noncomputable def fixF (S : RSt) : D := @ite D (okS 3 3 S) (Classical.propDecidable _) (.tup [.agg (V3.of (solV S 3)).F, .sl (freeC S.lead 3).length (freeF S (freeC S.lead 3)), .bool true]) (.tup [.agg [.int .i64 0, .int .i64 0, .int .i64 0, .int .i64 0, .int .i64 0, .int .i64 0], .sl 0 [], .bool false])
theorem zeros_cells : [D.int .i64 0, .int .i64 0, .int .i64 0, .int .i64 0, .int .i64 0, .int .i64 0, .int .i64 0, .int .i64 0, .int .i64 0, .int .i64 0, .int .i64 0, .int .i64 0, .int .i64 0, .int .i64 0, .int .i64 0, .int .i64 0, .int .i64 0, .int .i64 0, .int .i64 0, .int .i64 0, .int .i64 0, .int .i64 0, .int .i64 0, .int .i64 0] = cellsP (fun _ _ => (0, 0)) := rfl
theorem sub0 (q : Rat) : q - 0 = q := by grind
theorem M3.CB.rowSF {m : M3} (h : m.CB 2 12) (i : Nat) : Go.Proofs.SF ((m.g.row i).at' i) ∧ Go.Proofs.SF (m.s.at' i) := by
 have r : (m.g.row i).CB 2 12 := by
  unfold G3.row; split
  ·exact h.1
  ·split
   ·exact h.2.1
   ·exact h.2.2.1
 exact ⟨(r.at' i).sf (by decide) (by decide) (by decide), (h.2.2.2.at' i).sf (by decide) (by decide) (by decide)⟩
theorem ldG (m : M3) {R : List D} (hR : R = m.F) {o i k t : Nat} {N : EP} {E : Env} (hi : i < 3) (hk : k < 3) (ho : o = i * 6 + k * 2) : ldC true 2 (R.drop o) t N E = N (st1 E t (.agg [.int .i64 ((m.g.row i).at' k).num, .int .i64 (((m.g.row i).at' k).den : Int)])) := by
 subst ho hR
 have h : ofCells true 2 (m.F.drop (i * 6 + k * 2)) = some (.agg [.int .i64 ((m.g.row i).at' k).num, .int .i64 (((m.g.row i).at' k).den : Int)]) := by
  refine cases3 (P := fun i => ofCells true 2 (m.F.drop (i * 6 + k * 2)) = some (.agg [.int .i64 ((m.g.row i).at' k).num, .int .i64 (((m.g.row i).at' k).den : Int)])) ?_ ?_ ?_ hi <;>
  ·refine cases3 (P := fun k => ofCells true 2 (m.F.drop (_ * 6 + k * 2)) = some (.agg [.int .i64 ((m.g.row _).at' k).num, .int .i64 (((m.g.row _).at' k).den : Int)])) ?_ ?_ ?_ hk <;> rfl
 unfold ldC; rw [h]; simp
theorem ldS (m : M3) {R : List D} (hR : R = m.F) {o i t : Nat} {N : EP} {E : Env} (hi : i < 3) (ho : o = 18 + i * 2) : ldC true 2 (R.drop o) t N E = N (st1 E t (.agg [.int .i64 (m.s.at' i).num, .int .i64 ((m.s.at' i).den : Int)])) := by
 subst ho hR
 have h : ofCells true 2 (m.F.drop (18 + i * 2)) = some (.agg [.int .i64 (m.s.at' i).num, .int .i64 ((m.s.at' i).den : Int)]) := by
  refine cases3 (P := fun i => ofCells true 2 (m.F.drop (18 + i * 2)) = some (.agg [.int .i64 (m.s.at' i).num, .int .i64 ((m.s.at' i).den : Int)])) ?_ ?_ ?_ hi <;> rfl
 unfold ldC; rw [h]; simp
set_option maxRecDepth 100000 in
set_option maxHeartbeats 8000000 in
theorem Tryz.wFixed (m : M3) (w : Nat) (h3 : w = 3) (hcb : m.CB 2 12) : Con Tryz.prog Tryz.L 16 [.agg m.F] (fixF (redM 3 m.W w)) := by
 have z0 := Tryz.fzero; have z1 := Tryz.fone
 have hW := hcb.rws
 obtain ⟨R, hR⟩ : ∃ R : List D, R = m.F := ⟨_, rfl⟩
 have hRl : R.length = 24 := by rw [hR]; rfl
 rw [← hR]
 have hal : aliasOf (fixF (redM 3 m.W w)) = none := by unfold fixF; split <;> rfl
 refine rule16 Tryz.hL hal rfl rfl ?_
 (simp only [pc16, rs16, oU, oC]; refine ev ?_; try exact ⟨⟩)
 rw [zeros_cells]
 refine ⟨hRl, by rw [hR]; rfl, ?_⟩
 refine loopF_of (fun E => ∃ (i : Nat) (G : PM), i ≤ 3 ∧ (∀ a b, a < i → b < 4 → G a b = qP m.W a b) ∧ E = [(1, .box true R), (2, .box true [.int .i64 0, .int .i64 0, .int .i64 0, .int .i64 0, .int .i64 0, .int .i64 0]), (5, .box true (cellsP G)), (6, .int .i64 i)])
  (fun E => match lk E 6 with | .int _ i => 3 - i.toNat | _ => 0) ⟨0, _, by omega, fun a b h => absurd h (by omega), rfl⟩ ?_
 rintro _ ⟨i, G, hi, hG, rfl⟩
 (refine ev ?_; try exact ⟨⟩)
 refine ⟨fun hlt => ?_, fun hge => ?_⟩
 ·refine loopF_of (fun E => ∃ (k : Nat) (G : PM), k ≤ 3 ∧ (∀ a b, a < i → b < 4 → G a b = qP m.W a b) ∧ (∀ b, b < k → G i b = prq ((m.g.row i).at' b)) ∧ E = [(1, .box true R), (2, .box true [.int .i64 0, .int .i64 0, .int .i64 0, .int .i64 0, .int .i64 0, .int .i64 0]), (5, .box true (cellsP G)), (6, .int .i64 i), (7, .int .i64 k)])
   (fun E => match lk E 7 with | .int _ i => 3 - i.toNat | _ => 0) ⟨0, _, by omega, hG, fun b h => absurd h (by omega), rfl⟩ ?_
  rintro _ ⟨k, G, hk, hG, hGi, rfl⟩
  (refine ev ?_; try exact ⟨⟩)
  refine ⟨fun hklt => ?_, fun hkge => ?_⟩
  ·refine ⟨⟨by omega, by omega⟩, ⟨by omega, by omega⟩, ?_⟩
   rw [ldG m hR (i := i) (k := k) (by omega) (by omega) rfl]
   (refine ev ?_; try exact ⟨⟩)
   rw [stP (by omega) (by omega)]
   refine ⟨⟨by omega, by omega⟩, ⟨by omega, by omega⟩, by rw [cellsP_len]; omega, ⟨by omega, by omega⟩, ⟨k + 1, _, by omega, ?_, ?_, rfl, by simp⟩, by omega⟩
   ·intro a b ha hb
    rw [show setP G i k _ a b = G a b from if_neg (by omega)]; exact hG a b ha hb
   ·intro b hb
    show (if _ then _ else _) = _
    by_cases e : b = k
    ·subst e; rw [if_pos ⟨rfl, rfl⟩]; rfl
    ·rw [if_neg (by omega)]; exact hGi b (by omega)
  ·obtain rfl : k = 3 := by omega
   have hd : G i i = prq ((m.g.row i).at' i) := hGi i (by omega)
   have hrow : m.W i i = (m.g.row i).at' i - 1 := by
    refine cases3 (P := fun i => m.W i i = (m.g.row i).at' i - 1) ?_ ?_ ?_ (show i < 3 by omega) <;> rfl
   have hlast : m.W i 3 = 0 - m.s.at' i := by
    show -(m.s.at' i) = _
    grind
   have hoff : ∀ b, b < 3 → b ≠ i → m.W i b = (m.g.row i).at' b := by
    refine cases3 (P := fun i => ∀ b, b < 3 → b ≠ i → m.W i b = (m.g.row i).at' b) ?_ ?_ ?_ (show i < 3 by omega) <;>
    ·intro b hb hn
     have hb' : b = 0 ∨ b = 1 ∨ b = 2 := by omega
     rcases hb' with rfl | rfl | rfl
     all_goals first | exact absurd rfl hn | exact sub0 _
   have hf := (hW i (by omega)).fb (j := 3) (by omega)
   have hsb := Tryz.fsub ((m.g.row i).at' i) 1 (hcb.rowSF i).1 ⟨by decide, by decide⟩
   have hss := Tryz.fsub 0 (m.s.at' i) ⟨by decide, by decide⟩ (hcb.rowSF i).2
   refine ⟨⟨by omega, by omega⟩, ⟨by omega, by omega⟩, ?_⟩
   rw [ldP (i := i) (k := i) (by omega) (by omega) rfl]
   (refine ev ?_; try exact ⟨⟩)
   refine callF_of z1 ?_
   simp only [fD, evX, evY, evZ, forall_const, implies_true, initE, stepF, D.clean, mvF, moF, tkF, shF, ariF, ciF, catF, scF, ebF, eqF, eqOk, eqPr, enF, notF, ngF, cvF, csF, csbF, lenF, lenSF, ixF, iaF, PX.slot, iaAF, faF, ldF, D.mem, stF, bxF, mkSF, boundF, fldF, ixAF, mmF2, D.plain, D.isPure, optAll, D.dull, callVF, splice, D.cells, D.one, sets, resT, D.flat, D.flat0, D.simple, Nat.reduceBNe, Nat.reduceLT, reduceIte, Nat.reduceEqDiff, Nat.reduceAdd, Nat.reduceMul, Nat.reduceSub, Nat.reduceLeDiff, Int.reduceToNat, Int.reduceLT, Int.reduceLE, Int.reduceEq, Int.reduceNeg, Int.reduceSub, Int.reduceAdd, Int.reduceMul, stG_own]
   rw [hd]
   refine callF_of hsb ?_
   simp only [fD, evX, evY, evZ, forall_const, implies_true, initE, stepF, D.clean, mvF, moF, tkF, shF, ariF, ciF, catF, scF, ebF, eqF, eqOk, eqPr, enF, notF, ngF, cvF, csF, csbF, lenF, lenSF, ixF, iaF, PX.slot, iaAF, faF, ldF, D.mem, stF, bxF, mkSF, boundF, fldF, ixAF, mmF2, D.plain, D.isPure, optAll, D.dull, callVF, splice, D.cells, D.one, sets, resT, D.flat, D.flat0, D.simple, Nat.reduceBNe, Nat.reduceLT, reduceIte, Nat.reduceEqDiff, Nat.reduceAdd, Nat.reduceMul, Nat.reduceSub, Nat.reduceLeDiff, Int.reduceToNat, Int.reduceLT, Int.reduceLE, Int.reduceEq, Int.reduceNeg, Int.reduceSub, Int.reduceAdd, Int.reduceMul, stG_own]
   rw [stP (by omega) (by omega)]
   refine ⟨⟨by omega, by omega⟩, ⟨by omega, by omega⟩, by rw [cellsP_len]; omega, ?_⟩
   refine callF_of z0 ?_
   simp only [fD, evX, evY, evZ, forall_const, implies_true, initE, stepF, D.clean, mvF, moF, tkF, shF, ariF, ciF, catF, scF, ebF, eqF, eqOk, eqPr, enF, notF, ngF, cvF, csF, csbF, lenF, lenSF, ixF, iaF, PX.slot, iaAF, faF, ldF, D.mem, stF, bxF, mkSF, boundF, fldF, ixAF, mmF2, D.plain, D.isPure, optAll, D.dull, callVF, splice, D.cells, D.one, sets, resT, D.flat, D.flat0, D.simple, Nat.reduceBNe, Nat.reduceLT, reduceIte, Nat.reduceEqDiff, Nat.reduceAdd, Nat.reduceMul, Nat.reduceSub, Nat.reduceLeDiff, Int.reduceToNat, Int.reduceLT, Int.reduceLE, Int.reduceEq, Int.reduceNeg, Int.reduceSub, Int.reduceAdd, Int.reduceMul, stG_own]
   refine ⟨⟨by omega, by omega⟩, ?_⟩
   rw [ldS m hR (i := i) (by omega) rfl]
   (refine ev ?_; try exact ⟨⟩)
   refine callF_of hss ?_
   simp only [fD, evX, evY, evZ, forall_const, implies_true, initE, stepF, D.clean, mvF, moF, tkF, shF, ariF, ciF, catF, scF, ebF, eqF, eqOk, eqPr, enF, notF, ngF, cvF, csF, csbF, lenF, lenSF, ixF, iaF, PX.slot, iaAF, faF, ldF, D.mem, stF, bxF, mkSF, boundF, fldF, ixAF, mmF2, D.plain, D.isPure, optAll, D.dull, callVF, splice, D.cells, D.one, sets, resT, D.flat, D.flat0, D.simple, Nat.reduceBNe, Nat.reduceLT, reduceIte, Nat.reduceEqDiff, Nat.reduceAdd, Nat.reduceMul, Nat.reduceSub, Nat.reduceLeDiff, Int.reduceToNat, Int.reduceLT, Int.reduceLE, Int.reduceEq, Int.reduceNeg, Int.reduceSub, Int.reduceAdd, Int.reduceMul, stG_own]
   rw [show i * 8 + 6 = i * 8 + 3 * 2 from rfl, stP (by omega) (by omega)]
   refine ⟨⟨by omega, by omega⟩, by omega, by rw [cellsP_len]; omega, ⟨by omega, by omega⟩, ⟨i + 1, _, by omega, ?_, rfl, by simp⟩, by omega⟩
   intro a b ha hb
   show (if _ then _ else _) = _
   by_cases e : a = i ∧ b = 3
   ·obtain ⟨rfl, rfl⟩ := e
    rw [if_pos ⟨rfl, rfl⟩]; show _ = prq _; rw [hlast]; rfl
   ·rw [if_neg e]
    show (if _ then _ else _) = _
    by_cases e2 : a = i ∧ b = i
    ·obtain ⟨rfl, rfl⟩ := e2
     rw [if_pos ⟨rfl, rfl⟩]; show _ = prq _; rw [hrow]; rfl
    ·rw [if_neg e2]
     by_cases e3 : a = i
     ·subst e3
      rw [hGi b (by omega)]; show _ = prq _; rw [hoff b (by omega) (by omega)]
     ·exact hG a b (by omega) hb
 ·obtain rfl : i = 3 := by omega
  rw [cellsP_congr (G' := qP m.W) hG]
  clear hG G
  refine loopF_of (fun E => ∃ c : Nat, c ≤ 3 ∧ E = [(2, .box true [.int .i64 0, .int .i64 0, .int .i64 0, .int .i64 0, .int .i64 0, .int .i64 0]), (5, .box true (cellsP (qP (redM 3 m.W c).F))), (8, .box true (pvC (redM 3 m.W c).lead)), (9, .int .i64 (redM 3 m.W c).lead.length), (10, .int .i64 c)])
   (fun E => match lk E 10 with | .int _ i => 3 - i.toNat | _ => 0) ⟨0, by omega, rfl⟩ ?_
  rintro _ ⟨c, hc, rfl⟩
  have hgd := good_red 3 m.W c
  have hb := rws_red hW (w := c) (by omega)
  have hnl : c ∉ (redM 3 m.W c).lead := fun h => by have := hgd.lt c h; omega
  have hst : redM 3 m.W (c + 1) = stpM 3 (redM 3 m.W c) c := rfl
  (refine ev ?_; try exact ⟨⟩)
  refine ⟨fun hlt => ?_, fun hge => ?_⟩
  ·have hb : ∀ a, a < 3 → RW 307328 4 ((redM 3 m.W c).F a) := fun a ha => (hb a ha).mono (kB_mono (show c ≤ 2 by omega))
   generalize hS : redM 3 m.W c = S at *
   have hrk := hgd.len
   refine loopF_of (fun E => ∃ (i : Nat) (at' : Int), S.lead.length ≤ i ∧ i ≤ 3 ∧ ((at' = -1 ∧ ∀ j, S.lead.length ≤ j → j < i → S.F j c = 0) ∨ ∃ p : Nat, at' = p ∧ S.lead.length ≤ p ∧ p < i ∧ S.F p c ≠ 0 ∧ ∀ j, S.lead.length ≤ j → j < p → S.F j c = 0) ∧ E = [(2, .box true [.int .i64 0, .int .i64 0, .int .i64 0, .int .i64 0, .int .i64 0, .int .i64 0]), (5, .box true (cellsP (qP S.F))), (8, .box true (pvC S.lead)), (9, .int .i64 S.lead.length), (10, .int .i64 c), (11, .int .i64 at'), (12, .int .i64 i)])
    (fun E => match lk E 12 with | .int _ i => 3 - i.toNat | _ => 0) ⟨S.lead.length, -1, Nat.le_refl _, hrk, .inl ⟨rfl, fun j h1 h2 => absurd h2 (by omega)⟩, rfl⟩ ?_
   rintro _ ⟨i, at', hi1, hi2, hat, rfl⟩
   (refine ev ?_; try exact ⟨⟩)
   refine ⟨fun hilt => ?_, fun hige => ?_⟩
   ·refine ⟨⟨by omega, by omega⟩, ⟨by omega, by omega⟩, ?_⟩
    rw [ldN (i := i) (k := c) (by omega) (by omega) rfl]
    (refine ev ?_; try exact ⟨⟩)
    have hq : (qP S.F i c).1 = 0 ↔ S.F i c = 0 := Rat.num_eq_zero
    rcases hat with ⟨rfl, hz⟩ | ⟨p, rfl, hp1, hp2, hp3, hp4⟩
    ·refine ⟨fun h => ⟨fun _ => ⟨⟨by omega, by omega⟩, ⟨i + 1, i, by omega, by omega, .inr ⟨i, rfl, hi1, by omega, fun e => h (hq.2 e), hz⟩, rfl, by simp⟩, by omega⟩, fun h1 => absurd h1 (by omega)⟩, fun h => ?_⟩
     refine ⟨⟨by omega, by omega⟩, ⟨i + 1, -1, by omega, by omega, .inl ⟨rfl, fun j h1 h2 => ?_⟩, rfl, by simp⟩, by omega⟩
     by_cases e : j = i
     ·subst e; exact hq.1 (by simpa using h)
     ·exact hz j h1 (by omega)
    ·refine ⟨fun h => ⟨fun h1 => absurd h1 (by omega), fun _ => ⟨⟨by omega, by omega⟩, ⟨i + 1, p, by omega, by omega, .inr ⟨p, rfl, hp1, by omega, hp3, hp4⟩, rfl, by simp⟩, by omega⟩⟩, fun h => ?_⟩
     exact ⟨⟨by omega, by omega⟩, ⟨i + 1, p, by omega, by omega, .inr ⟨p, rfl, hp1, by omega, hp3, hp4⟩, rfl, by simp⟩, by omega⟩
   ·obtain rfl : i = 3 := by omega
    rcases hat with ⟨rfl, hz⟩ | ⟨p, rfl, hp1, hp2, hp3, hp4⟩
    ·refine ⟨fun _ => ?_, fun h => absurd h (by omega)⟩
     have e := stp_not (look_no hrk hz)
     rw [e] at hst
     exact ⟨⟨by omega, by omega⟩, ⟨c + 1, by omega, by rw [hst], by rw [hst], by rw [hst], by simp⟩, by omega⟩
    refine ⟨fun h => absurd h (by omega), fun _ => ?_⟩
    have hlk := look_eq hp1 hp2 hp3 hp4
    have e := stp_found (s := S) (n := 3) (c := c) (by rw [hlk]; exact hp2)
    rw [hlk] at e
    rw [e] at hst
    simp only [Int.toNat_natCast]
    refine ⟨⟨by omega, by omega⟩, ?_⟩
    rw [ldR (i := p) (by omega) rfl]
    (refine ev ?_; try exact ⟨⟩)
    refine ⟨⟨by omega, by omega⟩, ?_⟩
    rw [ldR (i := S.lead.length) (by omega) rfl]
    (refine ev ?_; try exact ⟨⟩)
    simp only [rowP_len, rowP_one, true_and]
    rw [stR (i := S.lead.length) (by omega), stR (i := p) (by omega), swp_cells]
    have hTr : swpM S.F S.lead.length p S.lead.length = S.F p := by simp [swpM]
    have hTw : ∀ a, a < 3 → RW 307328 4 (swpM S.F S.lead.length p a) := fun a ha => by
     unfold swpM; split
     ·exact hb p hp2
     ·split
      ·exact hb _ (by omega)
      ·exact hb a ha
    have hfin : ∀ a b, clrM (sclM (swpM S.F S.lead.length p) S.lead.length c) S.lead.length c a b = if a = S.lead.length then swpM S.F S.lead.length p S.lead.length b / swpM S.F S.lead.length p S.lead.length c else swpM S.F S.lead.length p a b - swpM S.F S.lead.length p a c * (swpM S.F S.lead.length p S.lead.length b / swpM S.F S.lead.length p S.lead.length c) := fun a b => by
     rw [hTr]; exact clr_at ..
    have hT0 : swpM S.F S.lead.length p S.lead.length c ≠ 0 := by rw [hTr]; exact hp3
    have hV := fun b (h : b < 4) => ((hTw _ (by omega : S.lead.length < 3)).div (c := c) (by omega) hT0).fb h
    have hTb := fun a b (h : a < 3) (h' : b < 4) => (hTw a h).fb h'
    clear hTr hTw
    generalize swpM S.F S.lead.length p = T at *
    have hr3 : S.lead.length < 3 := by omega
    have hpv := pvC_set (lead := S.lead) (c := c) (by omega) hnl
    have hll : (S.lead ++ [c]).length = S.lead.length + 1 := by simp
    refine ⟨⟨by omega, by omega⟩, by rw [cellsP_len]; omega, ⟨by omega, by omega⟩, by rw [cellsP_len]; omega, ⟨by omega, by omega⟩, ⟨by omega, by omega⟩, ?_⟩
    rw [ldP (i := S.lead.length) (k := c) (by omega) (by omega) rfl]
    (refine ev ?_; try exact ⟨⟩)
    generalize hrr : S.lead.length = r at *
    refine loopF_of (fun E => ∃ (k : Nat) (G : PM), k ≤ 4 ∧ (∀ a b, a < 3 → b < 4 → G a b = if a = r ∧ b < k then prq (T r b / T r c) else prq (T a b)) ∧ E = [(2, .box true [.int .i64 0, .int .i64 0, .int .i64 0, .int .i64 0, .int .i64 0, .int .i64 0]), (5, .box true (cellsP G)), (8, .box true (pvC S.lead)), (9, .int .i64 r), (10, .int .i64 c), (13, .box true [.int .i64 (T r c).num, .int .i64 ((T r c).den : Int)]), (14, .int .i64 k)])
     (fun E => match lk E 14 with | .int _ i => 4 - i.toNat | _ => 0) ⟨0, _, by omega, fun a b _ _ => (if_neg (by omega)).symm, rfl⟩ ?_
    rintro _ ⟨k, G, hk, hG, rfl⟩
    (refine ev ?_; try exact ⟨⟩)
    refine ⟨fun hklt => ?_, fun hkge => ?_⟩
    ·have hdv := Tryz.fdiv (T r k) (T r c) (hTb r k hr3 (by omega)).sf (hTb r c hr3 (by omega)).sf hT0
     have hg : G r k = prq (T r k) := by rw [hG r k hr3 (by omega), if_neg (by omega)]
     refine ⟨⟨by omega, by omega⟩, ⟨by omega, by omega⟩, ?_⟩
     rw [ldP (i := r) (k := k) (by omega) (by omega) rfl]
     (refine ev ?_; try exact ⟨⟩)
     rw [hg]
     refine callF_of hdv ?_
     simp only [fD, evX, evY, evZ, forall_const, implies_true, initE, stepF, D.clean, mvF, moF, tkF, shF, ariF, ciF, catF, scF, ebF, eqF, eqOk, eqPr, enF, notF, ngF, cvF, csF, csbF, lenF, lenSF, ixF, iaF, PX.slot, iaAF, faF, ldF, D.mem, stF, bxF, mkSF, boundF, fldF, ixAF, mmF2, D.plain, D.isPure, optAll, D.dull, callVF, splice, D.cells, D.one, sets, resT, D.flat, D.flat0, D.simple, Nat.reduceBNe, Nat.reduceLT, reduceIte, Nat.reduceEqDiff, Nat.reduceAdd, Nat.reduceMul, Nat.reduceSub, Nat.reduceLeDiff, Int.reduceToNat, Int.reduceLT, Int.reduceLE, Int.reduceEq, Int.reduceNeg, Int.reduceSub, Int.reduceAdd, Int.reduceMul, stG_own]
     rw [stP (by omega) (by omega)]
     refine ⟨⟨by omega, by omega⟩, ⟨by omega, by omega⟩, by rw [cellsP_len]; omega, ⟨by omega, by omega⟩, ⟨k + 1, _, by omega, ?_, rfl, by simp⟩, by omega⟩
     intro a b ha hb'
     show (if _ then _ else _) = _
     by_cases e : a = r ∧ b = k
     ·obtain ⟨rfl, rfl⟩ := e
      rw [if_pos ⟨rfl, rfl⟩, if_pos ⟨rfl, by omega⟩]; rfl
     ·rw [if_neg e, hG a b ha hb']
      by_cases e2 : a = r ∧ b < k
      ·rw [if_pos e2, if_pos ⟨e2.1, by omega⟩]
      ·rw [if_neg e2, if_neg (by omega)]
    ·obtain rfl : k = 4 := by omega
     refine loopF_of (fun E => ∃ (i : Nat) (G : PM), i ≤ 3 ∧ (∀ a b, a < 3 → b < 4 → G a b = if a = r then prq (T r b / T r c) else if a < i then prq (T a b - T a c * (T r b / T r c)) else prq (T a b)) ∧ E = [(2, .box true [.int .i64 0, .int .i64 0, .int .i64 0, .int .i64 0, .int .i64 0, .int .i64 0]), (5, .box true (cellsP G)), (8, .box true (pvC S.lead)), (9, .int .i64 r), (10, .int .i64 c), (15, .int .i64 i)])
      (fun E => match lk E 15 with | .int _ i => 3 - i.toNat | _ => 0) ⟨0, _, by omega, fun a b ha hb' => ?_, rfl⟩ ?_
     ·rw [hG a b ha hb']
      by_cases e : a = r
      ·rw [if_pos ⟨e, hb'⟩, if_pos e]
      ·rw [if_neg (by omega), if_neg e, if_neg (by omega)]
     clear hG
     rintro _ ⟨i, G, hi, hG, rfl⟩
     (refine ev ?_; try exact ⟨⟩)
     refine ⟨fun hilt => ?_, fun hige => ?_⟩
     ·refine ⟨⟨by omega, by omega⟩, ⟨by omega, by omega⟩, ?_⟩
      rw [ldP (i := i) (k := c) (by omega) (by omega) rfl]
      (refine ev ?_; try exact ⟨⟩)
      refine ⟨fun he => ?_, fun hne => ?_⟩
      ·obtain rfl : i = r := by omega
       refine ⟨⟨by omega, by omega⟩, ⟨i + 1, G, by omega, fun a b ha hb' => ?_, rfl, by simp⟩, by omega⟩
       rw [hG a b ha hb']
       by_cases e : a = i
       ·rw [if_pos e, if_pos e]
       ·rw [if_neg e, if_neg e]
        by_cases e2 : a < i
        ·rw [if_pos e2, if_pos (by omega)]
        ·rw [if_neg e2, if_neg (by omega)]
      ·have hic : G i c = prq (T i c) := by rw [hG i c (by omega) (by omega), if_neg (by omega), if_neg (by omega)]
       rw [hic]
       refine loopF_of (fun E => ∃ (k : Nat) (G : PM), k ≤ 4 ∧ (∀ a b, a < 3 → b < 4 → G a b = if a = r then prq (T r b / T r c) else if a < i ∨ (a = i ∧ b < k) then prq (T a b - T a c * (T r b / T r c)) else prq (T a b)) ∧ E = [(2, .box true [.int .i64 0, .int .i64 0, .int .i64 0, .int .i64 0, .int .i64 0, .int .i64 0]), (5, .box true (cellsP G)), (8, .box true (pvC S.lead)), (9, .int .i64 r), (10, .int .i64 c), (15, .int .i64 i), (16, .box true [.int .i64 (T i c).num, .int .i64 ((T i c).den : Int)]), (17, .int .i64 k)])
        (fun E => match lk E 17 with | .int _ i => 4 - i.toNat | _ => 0) ⟨0, _, by omega, fun a b ha hb' => ?_, rfl⟩ ?_
       ·rw [hG a b ha hb']
        by_cases e : a = r
        ·rw [if_pos e, if_pos e]
        ·rw [if_neg e, if_neg e]
         by_cases e2 : a < i
         ·rw [if_pos e2, if_pos (.inl e2)]
         ·rw [if_neg e2, if_neg (by omega)]
       clear hG hic
       rintro _ ⟨k, G, hk, hG, rfl⟩
       (refine ev ?_; try exact ⟨⟩)
       refine ⟨fun hklt => ?_, fun hkge => ?_⟩
       ·have hml := Tryz.fmul (T i c) (T r k / T r c) (hTb i c (by omega) (by omega)).sf (hV k (by omega)).sf
        have hsu := Tryz.fsubW (T i k) (T i c * (T r k / T r c)) (hTb i k (by omega) (by omega)) ((hTb i c (by omega) (by omega)).mul (hV k (by omega)))
        have h1 : G i k = prq (T i k) := by rw [hG i k (by omega) (by omega), if_neg (by omega), if_neg (by omega)]
        have h2 : G r k = prq (T r k / T r c) := by rw [hG r k hr3 (by omega), if_pos rfl]
        refine ⟨⟨by omega, by omega⟩, ⟨by omega, by omega⟩, ?_⟩
        rw [ldP (i := i) (k := k) (by omega) (by omega) rfl]
        (refine ev ?_; try exact ⟨⟩)
        refine ⟨⟨by omega, by omega⟩, ⟨by omega, by omega⟩, ?_⟩
        rw [ldP (i := r) (k := k) (by omega) (by omega) rfl]
        (refine ev ?_; try exact ⟨⟩)
        rw [h1, h2]
        refine callF_of hml ?_
        simp only [fD, evX, evY, evZ, forall_const, implies_true, initE, stepF, D.clean, mvF, moF, tkF, shF, ariF, ciF, catF, scF, ebF, eqF, eqOk, eqPr, enF, notF, ngF, cvF, csF, csbF, lenF, lenSF, ixF, iaF, PX.slot, iaAF, faF, ldF, D.mem, stF, bxF, mkSF, boundF, fldF, ixAF, mmF2, D.plain, D.isPure, optAll, D.dull, callVF, splice, D.cells, D.one, sets, resT, D.flat, D.flat0, D.simple, Nat.reduceBNe, Nat.reduceLT, reduceIte, Nat.reduceEqDiff, Nat.reduceAdd, Nat.reduceMul, Nat.reduceSub, Nat.reduceLeDiff, Int.reduceToNat, Int.reduceLT, Int.reduceLE, Int.reduceEq, Int.reduceNeg, Int.reduceSub, Int.reduceAdd, Int.reduceMul, stG_own]
        refine callF_of hsu ?_
        simp only [fD, evX, evY, evZ, forall_const, implies_true, initE, stepF, D.clean, mvF, moF, tkF, shF, ariF, ciF, catF, scF, ebF, eqF, eqOk, eqPr, enF, notF, ngF, cvF, csF, csbF, lenF, lenSF, ixF, iaF, PX.slot, iaAF, faF, ldF, D.mem, stF, bxF, mkSF, boundF, fldF, ixAF, mmF2, D.plain, D.isPure, optAll, D.dull, callVF, splice, D.cells, D.one, sets, resT, D.flat, D.flat0, D.simple, Nat.reduceBNe, Nat.reduceLT, reduceIte, Nat.reduceEqDiff, Nat.reduceAdd, Nat.reduceMul, Nat.reduceSub, Nat.reduceLeDiff, Int.reduceToNat, Int.reduceLT, Int.reduceLE, Int.reduceEq, Int.reduceNeg, Int.reduceSub, Int.reduceAdd, Int.reduceMul, stG_own]
        rw [stP (by omega) (by omega)]
        refine ⟨⟨by omega, by omega⟩, ⟨by omega, by omega⟩, by rw [cellsP_len]; omega, ⟨by omega, by omega⟩, ⟨k + 1, _, by omega, ?_, rfl, by simp⟩, by omega⟩
        intro a b ha hb'
        show (if _ then _ else _) = _
        by_cases e : a = i ∧ b = k
        ·obtain ⟨rfl, rfl⟩ := e
         rw [if_pos ⟨rfl, rfl⟩, if_neg (by omega), if_pos (.inr ⟨rfl, by omega⟩)]; rfl
        ·rw [if_neg e, hG a b ha hb']
         by_cases e2 : a = r
         ·rw [if_pos e2, if_pos e2]
         ·rw [if_neg e2, if_neg e2]
          by_cases e3 : a < i ∨ (a = i ∧ b < k)
          ·rw [if_pos e3, if_pos (by omega)]
          ·rw [if_neg e3, if_neg (by omega)]
       ·obtain rfl : k = 4 := by omega
        refine ⟨⟨by omega, by omega⟩, ⟨i + 1, G, by omega, fun a b ha hb' => ?_, rfl, by simp⟩, by omega⟩
        rw [hG a b ha hb']
        by_cases e : a = r
        ·rw [if_pos e, if_pos e]
        ·rw [if_neg e, if_neg e]
         by_cases e2 : a < i + 1
         ·rw [if_pos e2, if_pos (by omega)]
         ·rw [if_neg e2, if_neg (by omega)]
     ·obtain rfl : i = 3 := by omega
      rw [show List.take c (pvC S.lead) ++ [D.int .i64 (r : Int)] ++ List.drop (c + 1) (pvC S.lead) = pvC (S.lead ++ [c]) from hpv]
      refine ⟨⟨by omega, by omega⟩, by show c + 1 ≤ 3; omega, ⟨by omega, by omega⟩, ⟨by omega, by omega⟩, ⟨c + 1, by omega, ?_, by rw [hst], by rw [hst]; simp [hll], by simp⟩, by omega⟩
      rw [hst, cellsP_congr (G' := qP (clrM (sclM T r c) r c)) fun a b ha hb' => ?_]
      rw [hG a b ha hb']
      show _ = prq _
      rw [hfin]
      by_cases e : a = r
      ·rw [if_pos e, if_pos e]
      ·rw [if_neg e, if_neg e, if_pos ha]
  ·obtain rfl : c = 3 := by omega
   rw [h3]
   have hbF := fun a b (ha : a < 3) (hb' : b < 4) => (hb a ha).fb hb'
   clear hst hnl hb
   generalize redM 3 m.W 3 = S at *
   have hrk := hgd.len
   refine loopF_of (fun E => ∃ i : Nat, S.lead.length ≤ i ∧ i ≤ 3 ∧ (∀ j, S.lead.length ≤ j → j < i → S.F j 3 = 0) ∧ E = [(2, .box true [.int .i64 0, .int .i64 0, .int .i64 0, .int .i64 0, .int .i64 0, .int .i64 0]), (5, .box true (cellsP (qP S.F))), (8, .box true (pvC S.lead)), (18, .int .i64 i)])
    (fun E => match lk E 18 with | .int _ i => 3 - i.toNat | _ => 0) ⟨S.lead.length, Nat.le_refl _, hrk, fun j h1 h2 => absurd h2 (by omega), rfl⟩ ?_
   rintro _ ⟨i, hi1, hi2, hz, rfl⟩
   (refine ev ?_; try exact ⟨⟩)
   refine ⟨fun hilt => ?_, fun hige => ?_⟩
   ·refine ⟨⟨by omega, by omega⟩, by omega, ?_⟩
    rw [ldN (i := i) (k := 3) (by omega) (by omega) rfl]
    (refine ev ?_; try exact ⟨⟩)
    have hq : (qP S.F i 3).1 = 0 ↔ S.F i 3 = 0 := Rat.num_eq_zero
    refine ⟨fun h => ?_, fun h => ?_⟩
    ·unfold fixF
     rw [if_neg fun hok => h (hq.2 (hok i hi1 (by omega)))]
     rfl
    ·refine ⟨⟨by omega, by omega⟩, ⟨i + 1, by omega, by omega, fun j h1 h2 => ?_, by simp⟩, by omega⟩
     by_cases e : j = i
     ·subst e; exact hq.1 (by simpa using h)
     ·exact hz j h1 (by omega)
   ·obtain rfl : i = 3 := by omega
    have hok : okS 3 3 S := fun j h1 h2 => hz j h1 h2
    unfold fixF
    rw [if_pos hok]
    clear hz
    refine callF_of z0 ?_
    simp only [fD, evX, evY, evZ, forall_const, implies_true, initE, stepF, D.clean, mvF, moF, tkF, shF, ariF, ciF, catF, scF, ebF, eqF, eqOk, eqPr, enF, notF, ngF, cvF, csF, csbF, lenF, lenSF, ixF, iaF, PX.slot, iaAF, faF, ldF, D.mem, stF, bxF, mkSF, boundF, fldF, ixAF, mmF2, D.plain, D.isPure, optAll, D.dull, callVF, splice, D.cells, D.one, sets, resT, D.flat, D.flat0, D.simple, Nat.reduceBNe, Nat.reduceLT, reduceIte, Nat.reduceEqDiff, Nat.reduceAdd, Nat.reduceMul, Nat.reduceSub, Nat.reduceLeDiff, Int.reduceToNat, Int.reduceLT, Int.reduceLE, Int.reduceEq, Int.reduceNeg, Int.reduceSub, Int.reduceAdd, Int.reduceMul, stG_own]
    refine callF_of z0 ?_
    simp only [fD, evX, evY, evZ, forall_const, implies_true, initE, stepF, D.clean, mvF, moF, tkF, shF, ariF, ciF, catF, scF, ebF, eqF, eqOk, eqPr, enF, notF, ngF, cvF, csF, csbF, lenF, lenSF, ixF, iaF, PX.slot, iaAF, faF, ldF, D.mem, stF, bxF, mkSF, boundF, fldF, ixAF, mmF2, D.plain, D.isPure, optAll, D.dull, callVF, splice, D.cells, D.one, sets, resT, D.flat, D.flat0, D.simple, Nat.reduceBNe, Nat.reduceLT, reduceIte, Nat.reduceEqDiff, Nat.reduceAdd, Nat.reduceMul, Nat.reduceSub, Nat.reduceLeDiff, Int.reduceToNat, Int.reduceLT, Int.reduceLE, Int.reduceEq, Int.reduceNeg, Int.reduceSub, Int.reduceAdd, Int.reduceMul, stG_own]
    refine callF_of z0 ?_
    simp only [fD, evX, evY, evZ, forall_const, implies_true, initE, stepF, D.clean, mvF, moF, tkF, shF, ariF, ciF, catF, scF, ebF, eqF, eqOk, eqPr, enF, notF, ngF, cvF, csF, csbF, lenF, lenSF, ixF, iaF, PX.slot, iaAF, faF, ldF, D.mem, stF, bxF, mkSF, boundF, fldF, ixAF, mmF2, D.plain, D.isPure, optAll, D.dull, callVF, splice, D.cells, D.one, sets, resT, D.flat, D.flat0, D.simple, Nat.reduceBNe, Nat.reduceLT, reduceIte, Nat.reduceEqDiff, Nat.reduceAdd, Nat.reduceMul, Nat.reduceSub, Nat.reduceLeDiff, Int.reduceToNat, Int.reduceLT, Int.reduceLE, Int.reduceEq, Int.reduceNeg, Int.reduceSub, Int.reduceAdd, Int.reduceMul, stG_own]
    have hlt3 : ∀ {j t : Nat}, posn S.lead j = some t → t < 3 := fun {j t} h => by
     have := posn_some h
     obtain ⟨h1, _⟩ := List.getElem?_eq_some_iff.1 this
     omega
    refine loopF_of (fun E => ∃ c : Nat, c ≤ 3 ∧ E = [(2, .box true [.int .i64 0, .int .i64 0, .int .i64 0, .int .i64 0, .int .i64 0, .int .i64 0]), (5, .box true (cellsP (qP S.F))), (8, .box true (pvC S.lead)), (19, .box true (V3.of fun j => if j < c then solV S 3 j else 0).F), (20, .own true 42 (freeC S.lead c).length (freeF S (freeC S.lead c))), (21, .int .i64 c)])
     (fun E => match lk E 21 with | .int _ i => 3 - i.toNat | _ => 0) ⟨0, by omega, rfl⟩ ?_
    rintro _ ⟨c, hc, rfl⟩
    (refine ev ?_; try exact ⟨⟩)
    refine ⟨fun hclt => ?_, fun hcge => ?_⟩
    ·refine ⟨⟨by omega, by omega⟩, ?_⟩
     rw [pvC_ld S.lead (by omega)]
     (refine ev ?_; try exact ⟨⟩)
     have hfs := freeC_succ S.lead c
     have hsv : solV S 3 c = match posn S.lead c with | some t => S.F t 3 | none => 0 := rfl
     cases hp : posn S.lead c with
     | some t =>
       have ht := hlt3 hp
       have hmem : c ∈ S.lead := by
        by_cases h : c ∈ S.lead
        ·exact h
        ·rw [posn_none.2 h] at hp; cases hp
       rw [hp] at hsv
       rw [if_pos hmem, List.append_nil] at hfs
       have hpv : pvI S.lead c = (t : Int) := by unfold pvI; rw [hp]
       rw [hpv]
       refine ⟨fun _ => ?_, fun h => absurd h (by omega)⟩
       refine ⟨⟨by omega, by omega⟩, ?_⟩
       rw [pvC_ld S.lead (by omega), hpv]
       (refine ev ?_; try exact ⟨⟩)
       refine ⟨⟨by omega, by omega⟩, by omega, ?_⟩
       rw [ldP (i := t) (k := 3) (by omega) (by omega) rfl]
       rw [show (qP S.F t 3).1 = (S.F t 3).num from rfl, show (qP S.F t 3).2 = ((S.F t 3).den : Int) from rfl]
       (refine ev ?_; try exact ⟨⟩)
       rw [stV (by omega)]
       refine ⟨⟨by omega, by omega⟩, by rw [ofF_len]; omega, ⟨by omega, by omega⟩, ⟨c + 1, by omega, ?_, by rw [hfs], by simp⟩, by omega⟩
       rw [ofF_congr (g := fun j => if j < c + 1 then solV S 3 j else 0) fun j hj => ?_]
       unfold updV
       by_cases e : j = c
       ·subst e; rw [if_pos rfl, if_pos (by omega), hsv]
       ·rw [if_neg e]
        show (if j < c then _ else _) = _
        by_cases e2 : j < c
        ·rw [if_pos e2, if_pos (by omega)]
        ·rw [if_neg e2, if_neg (by omega)]
     | none =>
       have hmem : c ∉ S.lead := posn_none.1 hp
       rw [hp] at hsv
       rw [if_neg hmem] at hfs
       have hpv : pvI S.lead c = -1 := pv_none hmem
       rw [hpv]
       refine ⟨fun h => absurd h (by omega), fun _ => ?_⟩
       refine callF_of z0 ?_
       simp only [fD, evX, evY, evZ, forall_const, implies_true, initE, stepF, D.clean, mvF, moF, tkF, shF, ariF, ciF, catF, scF, ebF, eqF, eqOk, eqPr, enF, notF, ngF, cvF, csF, csbF, lenF, lenSF, ixF, iaF, PX.slot, iaAF, faF, ldF, D.mem, stF, bxF, mkSF, boundF, fldF, ixAF, mmF2, D.plain, D.isPure, optAll, D.dull, callVF, splice, D.cells, D.one, sets, resT, D.flat, D.flat0, D.simple, Nat.reduceBNe, Nat.reduceLT, reduceIte, Nat.reduceEqDiff, Nat.reduceAdd, Nat.reduceMul, Nat.reduceSub, Nat.reduceLeDiff, Int.reduceToNat, Int.reduceLT, Int.reduceLE, Int.reduceEq, Int.reduceNeg, Int.reduceSub, Int.reduceAdd, Int.reduceMul, stG_own]
       refine callF_of z0 ?_
       simp only [fD, evX, evY, evZ, forall_const, implies_true, initE, stepF, D.clean, mvF, moF, tkF, shF, ariF, ciF, catF, scF, ebF, eqF, eqOk, eqPr, enF, notF, ngF, cvF, csF, csbF, lenF, lenSF, ixF, iaF, PX.slot, iaAF, faF, ldF, D.mem, stF, bxF, mkSF, boundF, fldF, ixAF, mmF2, D.plain, D.isPure, optAll, D.dull, callVF, splice, D.cells, D.one, sets, resT, D.flat, D.flat0, D.simple, Nat.reduceBNe, Nat.reduceLT, reduceIte, Nat.reduceEqDiff, Nat.reduceAdd, Nat.reduceMul, Nat.reduceSub, Nat.reduceLeDiff, Int.reduceToNat, Int.reduceLT, Int.reduceLE, Int.reduceEq, Int.reduceNeg, Int.reduceSub, Int.reduceAdd, Int.reduceMul, stG_own]
       refine callF_of z0 ?_
       simp only [fD, evX, evY, evZ, forall_const, implies_true, initE, stepF, D.clean, mvF, moF, tkF, shF, ariF, ciF, catF, scF, ebF, eqF, eqOk, eqPr, enF, notF, ngF, cvF, csF, csbF, lenF, lenSF, ixF, iaF, PX.slot, iaAF, faF, ldF, D.mem, stF, bxF, mkSF, boundF, fldF, ixAF, mmF2, D.plain, D.isPure, optAll, D.dull, callVF, splice, D.cells, D.one, sets, resT, D.flat, D.flat0, D.simple, Nat.reduceBNe, Nat.reduceLT, reduceIte, Nat.reduceEqDiff, Nat.reduceAdd, Nat.reduceMul, Nat.reduceSub, Nat.reduceLeDiff, Int.reduceToNat, Int.reduceLT, Int.reduceLE, Int.reduceEq, Int.reduceNeg, Int.reduceSub, Int.reduceAdd, Int.reduceMul, stG_own]
       refine loopF_of (fun E => ∃ k : Nat, k ≤ 3 ∧ E = [(2, .box true [.int .i64 0, .int .i64 0, .int .i64 0, .int .i64 0, .int .i64 0, .int .i64 0]), (5, .box true (cellsP (qP S.F))), (8, .box true (pvC S.lead)), (19, .box true (V3.of fun j => if j < c then solV S 3 j else 0).F), (20, .own true 42 (freeC S.lead c).length (freeF S (freeC S.lead c))), (21, .int .i64 c), (22, .box true (V3.of fun j => if j < k then kN S c j else 0).F), (23, .int .i64 k)])
        (fun E => match lk E 23 with | .int _ i => 3 - i.toNat | _ => 0) ⟨0, by omega, rfl⟩ ?_
       rintro _ ⟨k, hk, rfl⟩
       (refine ev ?_; try exact ⟨⟩)
       refine ⟨fun hklt => ?_, fun hkge => ?_⟩
       ·refine ⟨⟨by omega, by omega⟩, ?_⟩
        rw [pvC_ld S.lead (by omega)]
        (refine ev ?_; try exact ⟨⟩)
        have hkn : kN S c k = match posn S.lead k with | some t => 0 - S.F t c | none => 0 := rfl
        cases hq : posn S.lead k with
        | some t =>
          have ht := hlt3 hq
          rw [hq] at hkn
          have hpk : pvI S.lead k = (t : Int) := by unfold pvI; rw [hq]
          have hsu := Tryz.fsubW 0 (S.F t c) ⟨by decide, by decide⟩ ((hbF t c ht (by omega)).mono (by decide) (by decide))
          rw [hpk]
          refine ⟨fun _ => ?_, fun h => absurd h (by omega)⟩
          refine callF_of z0 ?_
          simp only [fD, evX, evY, evZ, forall_const, implies_true, initE, stepF, D.clean, mvF, moF, tkF, shF, ariF, ciF, catF, scF, ebF, eqF, eqOk, eqPr, enF, notF, ngF, cvF, csF, csbF, lenF, lenSF, ixF, iaF, PX.slot, iaAF, faF, ldF, D.mem, stF, bxF, mkSF, boundF, fldF, ixAF, mmF2, D.plain, D.isPure, optAll, D.dull, callVF, splice, D.cells, D.one, sets, resT, D.flat, D.flat0, D.simple, Nat.reduceBNe, Nat.reduceLT, reduceIte, Nat.reduceEqDiff, Nat.reduceAdd, Nat.reduceMul, Nat.reduceSub, Nat.reduceLeDiff, Int.reduceToNat, Int.reduceLT, Int.reduceLE, Int.reduceEq, Int.reduceNeg, Int.reduceSub, Int.reduceAdd, Int.reduceMul, stG_own]
          refine ⟨⟨by omega, by omega⟩, ?_⟩
          rw [pvC_ld S.lead (by omega), hpk]
          (refine ev ?_; try exact ⟨⟩)
          refine ⟨⟨by omega, by omega⟩, ⟨by omega, by omega⟩, ?_⟩
          rw [ldP (i := t) (k := c) (by omega) (by omega) rfl]
          rw [show (qP S.F t c).1 = (S.F t c).num from rfl, show (qP S.F t c).2 = ((S.F t c).den : Int) from rfl]
          (refine ev ?_; try exact ⟨⟩)
          refine callF_of hsu ?_
          simp only [fD, evX, evY, evZ, forall_const, implies_true, initE, stepF, D.clean, mvF, moF, tkF, shF, ariF, ciF, catF, scF, ebF, eqF, eqOk, eqPr, enF, notF, ngF, cvF, csF, csbF, lenF, lenSF, ixF, iaF, PX.slot, iaAF, faF, ldF, D.mem, stF, bxF, mkSF, boundF, fldF, ixAF, mmF2, D.plain, D.isPure, optAll, D.dull, callVF, splice, D.cells, D.one, sets, resT, D.flat, D.flat0, D.simple, Nat.reduceBNe, Nat.reduceLT, reduceIte, Nat.reduceEqDiff, Nat.reduceAdd, Nat.reduceMul, Nat.reduceSub, Nat.reduceLeDiff, Int.reduceToNat, Int.reduceLT, Int.reduceLE, Int.reduceEq, Int.reduceNeg, Int.reduceSub, Int.reduceAdd, Int.reduceMul, stG_own]
          rw [stV (by omega)]
          refine ⟨⟨by omega, by omega⟩, by rw [ofF_len]; omega, ⟨by omega, by omega⟩, ⟨k + 1, by omega, ?_, by simp⟩, by omega⟩
          rw [ofF_congr (g := fun j => if j < k + 1 then kN S c j else 0) fun j hj => ?_]
          unfold updV
          by_cases e : j = k
          ·subst e; rw [if_pos rfl, if_pos (by omega), hkn]
          ·rw [if_neg e]
           show (if j < k then _ else _) = _
           by_cases e2 : j < k
           ·rw [if_pos e2, if_pos (by omega)]
           ·rw [if_neg e2, if_neg (by omega)]
        | none =>
          rw [hq] at hkn
          have hpk : pvI S.lead k = -1 := pv_none (posn_none.1 hq)
          rw [hpk]
          refine ⟨fun h => absurd h (by omega), fun _ => ?_⟩
          refine ⟨⟨by omega, by omega⟩, ⟨k + 1, by omega, ?_, by simp⟩, by omega⟩
          rw [ofF_congr (g := fun j => if j < k + 1 then kN S c j else 0) fun j hj => ?_]
          by_cases e : j = k
          ·subst e; rw [if_neg (by omega), if_pos (by omega), hkn]
          ·by_cases e2 : j < k
           ·rw [if_pos e2, if_pos (by omega)]
           ·rw [if_neg e2, if_neg (by omega)]
       ·obtain rfl : k = 3 := by omega
        refine callF_of z1 ?_
        simp only [fD, evX, evY, evZ, forall_const, implies_true, initE, stepF, D.clean, mvF, moF, tkF, shF, ariF, ciF, catF, scF, ebF, eqF, eqOk, eqPr, enF, notF, ngF, cvF, csF, csbF, lenF, lenSF, ixF, iaF, PX.slot, iaAF, faF, ldF, D.mem, stF, bxF, mkSF, boundF, fldF, ixAF, mmF2, D.plain, D.isPure, optAll, D.dull, callVF, splice, D.cells, D.one, sets, resT, D.flat, D.flat0, D.simple, Nat.reduceBNe, Nat.reduceLT, reduceIte, Nat.reduceEqDiff, Nat.reduceAdd, Nat.reduceMul, Nat.reduceSub, Nat.reduceLeDiff, Int.reduceToNat, Int.reduceLT, Int.reduceLE, Int.reduceEq, Int.reduceNeg, Int.reduceSub, Int.reduceAdd, Int.reduceMul, stG_own]
        rw [stV (by omega)]
        refine ⟨⟨by omega, by omega⟩, by rw [ofF_len]; omega, ?_⟩
        rw [ofF_congr (g := kerV S c) fun j hj => by
         rw [kN_ker]; unfold updV
         by_cases e : j = c
         ·rw [if_pos e, if_pos e]
         ·rw [if_neg e, if_neg e]; exact if_pos hj]
        refine ⟨_, ld6V _, ?_⟩
        simp only [ofF_len, ofF_one, evX, evY, evZ, forall_const, implies_true, initE, stepF, D.clean, mvF, moF, tkF, shF, ariF, ciF, catF, scF, ebF, eqF, eqOk, eqPr, enF, notF, ngF, cvF, csF, csbF, lenF, lenSF, ixF, iaF, PX.slot, iaAF, faF, ldF, D.mem, stF, bxF, mkSF, boundF, fldF, ixAF, mmF2, D.plain, D.isPure, optAll, D.dull, callVF, splice, D.cells, D.one, sets, resT, D.flat, D.flat0, D.simple, Nat.reduceBNe, Nat.reduceLT, reduceIte, Nat.reduceEqDiff, Nat.reduceAdd, Nat.reduceMul, Nat.reduceSub, Nat.reduceLeDiff, Int.reduceToNat, Int.reduceLT, Int.reduceLE, Int.reduceEq, Int.reduceNeg, Int.reduceSub, Int.reduceAdd, Int.reduceMul, stG_own]
        have hfl := free_len S.lead c
        refine ⟨by omega, by omega, ⟨by omega, by omega⟩, ⟨c + 1, by omega, ?_, ?_, by simp⟩, by omega⟩
        ·rw [ofF_congr (f := fun j => if j < c then solV S 3 j else 0) (g := fun j => if j < c + 1 then solV S 3 j else 0) fun j hj => ?_]
         show (if j < c then _ else _) = if j < c + 1 then _ else _
         by_cases e : j = c
         ·subst e; rw [if_neg (by omega), if_pos (by omega), hsv]
         ·by_cases e2 : j < c
          ·rw [if_pos e2, if_pos (by omega)]
          ·rw [if_neg e2, if_neg (by omega)]
        ·rw [hfs, List.length_append]
         unfold freeF
         rw [List.flatMap_append]
         simp
    ·obtain rfl : c = 3 := by omega
     rw [ofF_congr (g := solV S 3) fun j hj => if_pos hj]
     refine ⟨_, ld6V _, ?_⟩
     simp only [ofF_len, ofF_one, evX, evY, evZ, forall_const, implies_true, initE, stepF, D.clean, mvF, moF, tkF, shF, ariF, ciF, catF, scF, ebF, eqF, eqOk, eqPr, enF, notF, ngF, cvF, csF, csbF, lenF, lenSF, ixF, iaF, PX.slot, iaAF, faF, ldF, D.mem, stF, bxF, mkSF, boundF, fldF, ixAF, mmF2, D.plain, D.isPure, optAll, D.dull, callVF, splice, D.cells, D.one, sets, resT, D.flat, D.flat0, D.simple, Nat.reduceBNe, Nat.reduceLT, reduceIte, Nat.reduceEqDiff, Nat.reduceAdd, Nat.reduceMul, Nat.reduceSub, Nat.reduceLeDiff, Int.reduceToNat, Int.reduceLT, Int.reduceLE, Int.reduceEq, Int.reduceNeg, Int.reduceSub, Int.reduceAdd, Int.reduceMul, stG_own]
     rfl
end Go.Proofs

/-
 AFFINE: AffineFixes. Own work.
-/
namespace Go.Proofs
open Go Go.Pi Go.RowKit Go.Shelf Go.Ar Go.Mx

def WB (q : Rat) : Prop := FB 200000000000 200000000000 q
set_option maxHeartbeats 1000000 in
theorem Tryz.wvectorW (f : Nat → Rat) (h : ∀ j, j < 3 → WB (f j)) : Con Tryz.prog Tryz.L 18 [.agg (V3.of f).F] (.agg (V3.of f).L) := by
 have t1 := Tryz.ftextW _ (h 0 (by decide))
 have t2 := Tryz.ftextW _ (h 1 (by decide))
 have t3 := Tryz.ftextW _ (h 2 (by decide))
 refine rule18 Tryz.hL rfl rfl rfl ?_
 simp only [fD, V3.of, V3.F, M3.F, V3.L, M3.L, pc18, rs18, oU, oC, evX, evY, evZ, forall_const, implies_true, initE, stepF, D.clean, mvF, moF, tkF, shF, ariF, ciF, catF, scF, ebF, eqF, eqOk, eqPr, enF, notF, ngF, cvF, csF, csbF, lenF, lenSF, ixF, iaF, PX.slot, iaAF, faF, ldF, D.mem, stF, bxF, mkSF, boundF, fldF, ixAF, mmF2, D.plain, D.isPure, optAll, D.dull, callVF, splice, D.cells, D.one, sets, resT, D.flat, D.flat0, D.simple, Nat.reduceBNe, Nat.reduceLT, reduceIte, Nat.reduceEqDiff, Nat.reduceAdd, Nat.reduceMul, Nat.reduceSub, Nat.reduceLeDiff, Int.reduceToNat, Int.reduceLT, Int.reduceLE, Int.reduceEq, Int.reduceNeg, Int.reduceSub, Int.reduceAdd, Int.reduceMul, stG_own] at t1 t2 t3 ⊢
 repeat (refine ⟨by decide, ?_⟩)
 refine callF_of t1 ?_
 (refine ev ?_; try exact ⟨⟩)
 repeat (refine ⟨by decide, ?_⟩)
 refine callF_of t2 ?_
 (refine ev ?_; try exact ⟨⟩)
 repeat (refine ⟨by decide, ?_⟩)
 refine callF_of t3 ?_
 (refine ev ?_; try exact ⟨⟩)
 rfl
theorem flat_drop {α : Type} (f : α → List D) (n : Nat) (hl : ∀ a, (f a).length = n) : ∀ {l : List α} {k : Nat} {a : α}, l[k]? = some a → ((l.flatMap f).drop (k * n)).take n = f a
 | [], k, a, h => by simp at h
 | b :: l, 0, a, h => by
   obtain rfl : b = a := by simpa using h
   rw [List.flatMap_cons, Nat.zero_mul, List.drop_zero, List.take_append_of_le_length (by rw [hl]; exact Nat.le_refl _), List.take_of_length_le (by rw [hl]; exact Nat.le_refl _)]
 | b :: l, k + 1, a, h => by
   have ih := flat_drop f n hl (l := l) (k := k) (a := a) (by simpa using h)
   rw [List.flatMap_cons, show (k + 1) * n = (f b).length + k * n by rw [hl, Nat.succ_mul, Nat.add_comm], List.drop_length_add_append]
   exact ih
theorem flat_len {α : Type} (f : α → List D) (n : Nat) (hl : ∀ a, (f a).length = n) : ∀ l : List α, (l.flatMap f).length = l.length * n
 | [] => by simp
 | a :: l => by rw [List.flatMap_cons, List.length_append, hl, flat_len f n hl l, List.length_cons, Nat.succ_mul, Nat.add_comm]
theorem WB.neg {q : Rat} (h : WB q) : WB (-q) := by
 refine ⟨?_, ?_⟩
 ·rw [Rat.neg_num, Int.natAbs_neg]; exact h.1
 ·rw [Rat.neg_den]; exact h.2
/-- both ways to the fixed places -/
theorem Tryz.fixBoth (m : M3) (hcb : m.CB 2 12) : ∃ S K : RSt, Con Tryz.prog Tryz.L 14 [.agg m.L] (fixR S K) ∧ Con Tryz.prog Tryz.L 16 [.agg m.F] (fixF S) ∧ (freeC K.lead 3).length ≤ 3 ∧ S.lead = K.lead ∧
  (∀ i, i < (freeC K.lead 3).length → V3.of (kerM K 3 i) = V3.of (kerV S ((freeC K.lead 3).getD i 0))) ∧ (∀ j, j < 3 → WB (solV S 3 j)) ∧ (∀ i, i < (freeC K.lead 3).length → ∀ j, j < 3 → WB (kerM K 3 i j)) := by
 obtain ⟨w, h3⟩ : ∃ w, w = 3 := ⟨3, rfl⟩
 have fx := Tryz.aFixed m w h3 (M3.rd_mono hcb.rd (by decide)) (hcb.rbs w (w + 1)) (hcb.rbF w)
 have fr := Tryz.wFixed m w h3 hcb
 have hW : m.W = wideM w m.fF fun i _ => m.fy i := by rw [h3]; rfl
 rw [hW] at fr
 have hgd := good_red 3 m.fF w
 have hfc := free_count hgd.inc hgd.lt
 have hrc := red_congr (n := 3) (m := w) (F := wideM w m.fF fun i _ => m.fy i) (G := m.fF) (fun i _ j hj => by simp [wideM, hj]) (w := w) (Nat.le_refl _)
 have hrw := rws_red hcb.rws (w := w) (by omega)
 rw [hW] at hrw
 have hlt := (good_red 3 (wideM w m.fF fun i _ => m.fy i) w).len
 generalize redM 3 (wideM w m.fF fun i _ => m.fy i) w = S at *
 generalize redM 3 m.fF w = K at *
 subst h3
 obtain ⟨c1, c2, _, _⟩ := hrc
 have hwb : ∀ t, t < 3 → ∀ c, c < 4 → WB (S.F t c) := fun t ht c hc => ((hrw t ht).fb hc).mono (by decide) (by decide)
 have w0 : WB 0 := ⟨by decide, by decide⟩
 have w1 : WB 1 := ⟨by decide, by decide⟩
 have hps : ∀ {l : List Nat} {j t : Nat}, posn l j = some t → t < l.length := fun h => by
  obtain ⟨h1, _⟩ := List.getElem?_eq_some_iff.1 (posn_some h)
  exact h1
 have hkk : ∀ i, i < (freeC K.lead 3).length → ∀ j, kerM K 3 i j = kerV S ((freeC K.lead 3).getD i 0) j := fun i hi j => by
  unfold kerM kerV
  split
  ·rfl
  ·rw [c2]
   cases hp : posn K.lead j with
   | none => rfl
   | some t =>
     have := hps hp
     show -K.F t _ = -S.F t _
     rw [c1 t (by rw [c2] at hlt; omega) _ (free_mem hi).1]
 refine ⟨S, K, fx, fr, by omega, c2, fun i hi => by rw [show kerM K 3 i = kerV S ((freeC K.lead 3).getD i 0) from funext (hkk i hi)], fun j _ => ?_, fun i hi j _ => ?_⟩
 ·unfold solV
  cases hp : posn S.lead j with
  | none => exact w0
  | some t => have := hps hp; exact hwb t (by omega) 3 (by decide)
 ·rw [hkk i hi]
  unfold kerV
  split
  ·exact w1
  ·cases hp : posn S.lead j with
   | none => exact w0
   | some t => have := hps hp; exact (hwb t (by omega) _ (by have := (free_mem hi).1; omega)).neg
set_option maxRecDepth 100000 in
set_option maxHeartbeats 16000000 in
theorem Tryz.lfixes (p : Pl) (hp : p.ok) : Con Tryz.prog Tryz.L 3 [.agg p.D] (.bool true) := by
 have kn := Tryz.lknown
 have mk := Tryz.lmake p hp
 have mo := Tryz.lmodel p hp
 have hcb := p.mcb
 generalize p.m = m at *
 obtain ⟨S, K, fx, fr, hN, hlead, hker, hbs, hbk⟩ := Tryz.fixBoth m hcb
 have wv := Tryz.wvectorW _ hbs
 by_cases hok : okS 3 3 S
 ·rw [show fixR S K = _ from if_pos hok] at fx
  rw [show fixF S = _ from if_pos hok, hlead] at fr
  generalize hM : (freeC K.lead 3).length = M at *
  generalize V3.of (solV S 3) = P at *
  refine rule3 Tryz.hL rfl rfl rfl ?_
  simp only [Pl.D, V3.L, V3.F, M3.L, M3.F, pc3, rs3, oU, oC, evX, evY, evZ, forall_const, implies_true, initE, stepF, D.clean, mvF, moF, tkF, shF, ariF, ciF, catF, scF, ebF, eqF, eqOk, eqPr, enF, notF, ngF, cvF, csF, csbF, lenF, lenSF, ixF, iaF, PX.slot, iaAF, faF, ldF, D.mem, stF, bxF, mkSF, boundF, fldF, ixAF, mmF2, D.plain, D.isPure, optAll, D.dull, callVF, splice, D.cells, D.one, sets, resT, D.flat, D.flat0, D.simple, Nat.reduceBNe, Nat.reduceLT, reduceIte, Nat.reduceEqDiff, Nat.reduceAdd, Nat.reduceMul, Nat.reduceSub, Nat.reduceLeDiff, Int.reduceToNat, Int.reduceLT, Int.reduceLE, Int.reduceEq, Int.reduceNeg, Int.reduceSub, Int.reduceAdd, Int.reduceMul, stG_own] at mk mo fx fr wv ⊢
  repeat (refine ⟨by decide, ?_⟩)
  refine callF_of kn ?_
  (refine ev ?_; try exact ⟨⟩)
  repeat (refine ⟨by decide, ?_⟩)
  refine callF_of mk ?_
  (refine ev ?_; try exact ⟨⟩)
  refine callF_of fx ?_
  (refine ev ?_; try exact ⟨⟩)
  repeat (refine ⟨by decide, ?_⟩)
  refine callF_of mo ?_
  (refine ev ?_; try exact ⟨⟩)
  refine callF_of fr ?_
  (refine ev ?_; try exact ⟨⟩)
  refine callF_of wv ?_
  (refine ev ?_; try exact ⟨⟩)
  refine loopF_of (fun E => ∃ i : Nat, i ≤ M ∧ E = [(4, .sl M (fixK K M)), (8, .sl M (freeF S (freeC K.lead 3))), (10, .int .i64 i)])
   (fun E => match lk E 10 with | .int _ i => M - i.toNat | _ => 0) ⟨0, Nat.zero_le _, rfl⟩ ?_
  rintro _ ⟨i, hi, rfl⟩
  (refine ev ?_; try exact ⟨⟩)
  intro h3
  ·have hiM : i < M := by omega
   have wk := Tryz.wvectorW _ (hbk i hiM)
   have hfl : (freeF S (freeC K.lead 3)).length = M * 6 := by
    rw [← hM]; exact flat_len (fun d => (V3.of (kerV S d)).F) 6 (fun _ => rfl) _
   have hft : List.take 6 (List.drop (i * 6) (freeF S (freeC K.lead 3))) = (V3.of (kerM K 3 i)).F := by
    unfold freeF
    have hat : (freeC K.lead 3)[i]? = some ((freeC K.lead 3).getD i 0) := by
     rw [List.getD_eq_getElem?_getD, List.getElem?_eq_getElem (by omega)]; rfl
    rw [flat_drop (fun d => (V3.of (kerV S d)).F) 6 (fun _ => rfl) hat, hker i hiM]
   refine ⟨⟨by omega, by omega, by rw [fixK_len]; omega⟩, ?_⟩
   rw [fix_take hiM]
   (refine ev ?_; try exact ⟨⟩)
   refine ⟨⟨by omega, by omega, by rw [hfl]; omega⟩, ?_⟩
   rw [hft]
   simp only [V3.of, V3.L, V3.F] at wk
   simp only [V3.of, V3.F, evX, evY, evZ, forall_const, implies_true, initE, stepF, D.clean, mvF, moF, tkF, shF, ariF, ciF, catF, scF, ebF, eqF, eqOk, eqPr, enF, notF, ngF, cvF, csF, csbF, lenF, lenSF, ixF, iaF, PX.slot, iaAF, faF, ldF, D.mem, stF, bxF, mkSF, boundF, fldF, ixAF, mmF2, D.plain, D.isPure, optAll, D.dull, callVF, splice, D.cells, D.one, sets, resT, D.flat, D.flat0, D.simple, Nat.reduceBNe, Nat.reduceLT, reduceIte, Nat.reduceEqDiff, Nat.reduceAdd, Nat.reduceMul, Nat.reduceSub, Nat.reduceLeDiff, Int.reduceToNat, Int.reduceLT, Int.reduceLE, Int.reduceEq, Int.reduceNeg, Int.reduceSub, Int.reduceAdd, Int.reduceMul, stG_own]
   refine callF_of wk ?_
   (refine ev ?_; try exact ⟨⟩)
   exact ⟨⟨by omega, by omega⟩, ⟨i + 1, by omega, by simp⟩, by omega⟩
 ·rw [show fixR S K = _ from if_neg hok] at fx
  rw [show fixF S = _ from if_neg hok] at fr
  refine rule3 Tryz.hL rfl rfl rfl ?_
  simp only [Pl.D, V3.L, V3.F, M3.L, M3.F, pc3, rs3, oU, oC, evX, evY, evZ, forall_const, implies_true, initE, stepF, D.clean, mvF, moF, tkF, shF, ariF, ciF, catF, scF, ebF, eqF, eqOk, eqPr, enF, notF, ngF, cvF, csF, csbF, lenF, lenSF, ixF, iaF, PX.slot, iaAF, faF, ldF, D.mem, stF, bxF, mkSF, boundF, fldF, ixAF, mmF2, D.plain, D.isPure, optAll, D.dull, callVF, splice, D.cells, D.one, sets, resT, D.flat, D.flat0, D.simple, Nat.reduceBNe, Nat.reduceLT, reduceIte, Nat.reduceEqDiff, Nat.reduceAdd, Nat.reduceMul, Nat.reduceSub, Nat.reduceLeDiff, Int.reduceToNat, Int.reduceLT, Int.reduceLE, Int.reduceEq, Int.reduceNeg, Int.reduceSub, Int.reduceAdd, Int.reduceMul, stG_own] at mk mo fx fr wv ⊢
  repeat (refine ⟨by decide, ?_⟩)
  refine callF_of kn ?_
  (refine ev ?_; try exact ⟨⟩)
  repeat (refine ⟨by decide, ?_⟩)
  refine callF_of mk ?_
  (refine ev ?_; try exact ⟨⟩)
  refine callF_of fx ?_
  (refine ev ?_; try exact ⟨⟩)
  repeat (refine ⟨by decide, ?_⟩)
  refine callF_of mo ?_
  (refine ev ?_; try exact ⟨⟩)
  refine callF_of fr ?_
  (refine ev ?_; try exact ⟨⟩)
  simp [dB]
end Go.Proofs
