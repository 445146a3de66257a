/-
 AFFINE: known() = true. Own work.
-/
import Derived.Test.YtbcehhemdapjlaaGreatDoorPj
import Derived.Test.YtbcehhemdapjlaaGreatDoorSh
set_option linter.unusedVariables false
set_option linter.unusedSimpArgs false
namespace Go.Proofs
open Go Go.Pi Go.RowKit Go.Shelf Go.Ar Go.Mx

/-- the quarter turn of the examples -/
def turnM : M3 := ⟨⟨⟨0, -1, 0⟩, ⟨1, 0, 0⟩, ⟨0, 0, 1⟩⟩, ⟨2, 0, 0⟩⟩
theorem Tryz.lvecN (x y z : Int) (v : V3) (hx : x.natAbs ≤ 1000000000) (hy : y.natAbs ≤ 1000000000) (hz : z.natAbs ≤ 1000000000) (h1 : (x : Rat) = v.x) (h2 : (y : Rat) = v.y) (h3 : (z : Rat) = v.z) : Con Tryz.prog Tryz.L 22 [.int .i64 x, .int .i64 y, .int .i64 z] (.agg v.L) := by
 have h := Tryz.avec x y z hx hy hz
 rw [h1, h2, h3] at h
 exact h
theorem Tryz.lturn : Con Tryz.prog Tryz.L 57 [] (.agg turnM.L) := by
 have t1 := Tryz.lvecN 0 (-1) 0 turnM.g.a (by decide) (by decide) (by decide) (by decide +kernel) (by decide +kernel) (by decide +kernel)
 have t2 := Tryz.lvecN 1 0 0 turnM.g.b (by decide) (by decide) (by decide) (by decide +kernel) (by decide +kernel) (by decide +kernel)
 have t3 := Tryz.lvecN 0 0 1 turnM.g.c (by decide) (by decide) (by decide) (by decide +kernel) (by decide +kernel) (by decide +kernel)
 have t4 := Tryz.lvecN 2 0 0 turnM.s (by decide) (by decide) (by decide) (by decide +kernel) (by decide +kernel) (by decide +kernel)
 generalize turnM = m at *
 refine rule57 Tryz.hL rfl rfl rfl ?_
 simp only [V3.L, M3.L, pc57, rs57, oU, oC, evX, evY, evZ, forall_const, implies_true, initE, stepF, D.clean, mvF, moF, tkF, shF, ariF, ciF, catF, scF, ebF, eqF, eqOk, eqPr, enF, notF, ngF, cvF, csF, csbF, lenF, lenSF, ixF, iaF, PX.slot, iaAF, faF, ldF, D.mem, stF, bxF, mkSF, boundF, fldF, ixAF, mmF2, D.plain, D.isPure, optAll, D.dull, callVF, splice, D.cells, D.one, sets, resT, D.flat, D.flat0, D.simple, Nat.reduceBNe, Nat.reduceLT, reduceIte, Nat.reduceEqDiff, Nat.reduceAdd, Nat.reduceMul, Nat.reduceSub, Nat.reduceLeDiff, Int.reduceToNat, Int.reduceLT, Int.reduceLE, Int.reduceEq, Int.reduceNeg, Int.reduceSub, Int.reduceAdd, Int.reduceMul, stG_own] at t1 t2 t3 t4 ⊢
 refine callF_of t1 ?_
 (refine ev ?_; try exact ⟨⟩)
 refine callF_of t2 ?_
 (refine ev ?_; try exact ⟨⟩)
 refine callF_of t3 ?_
 (refine ev ?_; try exact ⟨⟩)
 refine callF_of t4 ?_
 (refine ev ?_; try exact ⟨⟩)
 rfl
/-! what Fixed needs -/
def M3.CB (D k : Nat) (m : M3) : Prop := m.g.a.CB D k ∧ m.g.b.CB D k ∧ m.g.c.CB D k ∧ m.s.CB D k
theorem V3.CB.at' {D k : Nat} {v : V3} (h : v.CB D k) (i : Nat) : Go.Proofs.CB D k (v.at' i) := by
 unfold V3.at'; split
 ·exact h.1
 ·split
  ·exact h.2.1
  ·exact h.2.2
theorem V3.CB.sub {D k l : Nat} {u v : V3} (h : u.CB D k) (h' : v.CB D l) : (u.sub v).CB D (k + l) := ⟨h.1.sub h'.1, h.2.1.sub h'.2.1, h.2.2.sub h'.2.2⟩
theorem cb20 : CB 2 2 0 := ⟨0, by decide, by decide +kernel⟩
theorem cb21 : CB 2 2 1 := ⟨2, by decide, by decide +kernel⟩
theorem M3.CB.fr {m : M3} (h : m.CB 2 12) (i : Nat) : (m.fr i).CB 2 14 := by
 have o : ∀ i, (G3.one.row i).CB 2 2 := fun i => by
  unfold G3.row; split
  ·exact ⟨cb21, cb20, cb20⟩
  ·split
   ·exact ⟨cb20, cb21, cb20⟩
   ·exact ⟨cb20, cb20, cb21⟩
 have r : (m.g.row i).CB 2 12 := by
  unfold G3.row; split
  ·exact h.1
  ·split
   ·exact h.2.1
   ·exact h.2.2.1
 exact r.sub (o i)
theorem M3.CB.rbs {m : M3} (h : m.CB 2 12) (w n : Nat) : RBs 2 3 n (wideM w m.fF fun i _ => m.fy i) := fun i _ => by
 refine ⟨2, by decide, by decide, fun j _ => ?_⟩
 unfold wideM
 split
 ·obtain ⟨u, h1, h2⟩ := (h.fr i).at' j
  exact ⟨u, Nat.le_trans h1 (by decide), h2⟩
 ·obtain ⟨u, h1, h2⟩ := (h.2.2.2.at' i).neg
  exact ⟨u, Nat.le_trans h1 (by decide), h2⟩
theorem M3.CB.rbF {m : M3} (h : m.CB 2 12) (n : Nat) : RBs 2 3 n m.fF := fun i _ => by
 refine ⟨2, by decide, by decide, fun j _ => ?_⟩
 obtain ⟨u, h1, h2⟩ := (h.fr i).at' j
 exact ⟨u, Nat.le_trans h1 (by decide), h2⟩
theorem M3.CB.rd {m : M3} (h : m.CB 2 12) : m.rd 10 := ⟨⟨h.1.rd (by decide) (by decide) (by decide), h.2.1.rd (by decide) (by decide) (by decide), h.2.2.1.rd (by decide) (by decide) (by decide)⟩, h.2.2.2.rd (by decide) (by decide) (by decide)⟩
theorem Tryz.lFixed (m : M3) (h : m.CB 2 12) : Con Tryz.prog Tryz.L 14 [.agg m.L] (fixR (redM 3 (wideM 3 m.fF fun i _ => m.fy i) 3) (redM 3 m.fF 3)) :=
 Tryz.aFixed m 3 rfl (M3.rd_mono h.rd (by decide)) (h.rbs 3 4) (h.rbF 3)
/-! the quarter turn's fixed places -/
theorem turn_S : (redM 3 (wideM 3 turnM.fF fun i _ => turnM.fy i) 3).lead = [0, 1] := by decide +kernel
theorem turn_S0 : (redM 3 (wideM 3 turnM.fF fun i _ => turnM.fy i) 3).F 2 3 = 0 := by decide +kernel
theorem turn_P : solV (redM 3 (wideM 3 turnM.fF fun i _ => turnM.fy i) 3) 3 0 = 1 ∧ solV (redM 3 (wideM 3 turnM.fF fun i _ => turnM.fy i) 3) 3 1 = 1 ∧ solV (redM 3 (wideM 3 turnM.fF fun i _ => turnM.fy i) 3) 3 2 = 0 := by decide +kernel
theorem turn_K : (freeC (redM 3 turnM.fF 3).lead 3).length = 1 ∧ kerM (redM 3 turnM.fF 3) 3 0 0 = 0 ∧ kerM (redM 3 turnM.fF 3) 3 0 1 = 0 ∧ kerM (redM 3 turnM.fF 3) 3 0 2 = 1 := by decide +kernel
theorem turn_cb : turnM.CB 2 12 := by
 have z : CB 2 12 0 := cb20.mono (by decide)
 have o : CB 2 12 1 := cb21.mono (by decide)
 exact ⟨⟨z, ⟨-2, by decide, by decide +kernel⟩, z⟩, ⟨o, z, z⟩, ⟨z, z, o⟩, ⟨⟨4, by decide, by decide +kernel⟩, z, z⟩⟩
theorem Tryz.lturnFixed : Con Tryz.prog Tryz.L 14 [.agg turnM.L] (.tup [.agg (V3.L ⟨1, 1, 0⟩), .sl 1 (V3.L ⟨0, 0, 1⟩), .bool true, .int .i64 0]) := by
 have h := Tryz.lFixed turnM turn_cb
 have hS := turn_S; have hS0 := turn_S0; obtain ⟨p0, p1, p2⟩ := turn_P; obtain ⟨k0, k1, k2, k3⟩ := turn_K
 generalize redM 3 (wideM 3 turnM.fF fun i _ => turnM.fy i) 3 = S at *
 generalize redM 3 turnM.fF 3 = K at *
 have hok : okS 3 3 S := fun i h1 h2 => by
  rw [hS] at h1
  obtain rfl : i = 2 := by simp at h1; omega
  exact hS0
 rw [show fixR S K = _ from if_pos hok, k0] at h
 have e1 : V3.of (solV S 3) = ⟨1, 1, 0⟩ := by unfold V3.of; rw [p0, p1, p2]
 have e2 : fixK K 1 = V3.L ⟨0, 0, 1⟩ := by
  rw [fixK_succ]
  have : V3.of (kerM K 3 0) = ⟨0, 0, 1⟩ := by unfold V3.of; rw [k1, k2, k3]
  rw [this]
  rfl
 rw [e1, e2] at h
 exact h
def shearM : M3 := ⟨shG ⟨1, 0, 0⟩ ⟨0, 0, 2⟩, V3.zero⟩
theorem V3.ext' {u v : V3} (h1 : u.x = v.x) (h2 : u.y = v.y) (h3 : u.z = v.z) : u = v := by cases u; cases v; simp_all
set_option maxHeartbeats 4000000 in
theorem Tryz.lknown : Con Tryz.prog Tryz.L 13 [] (.bool true) := by
 have q : ∀ (x : Rat), rd x ≤ 2 → rd x ≤ 90 := fun x h => by omega
 have v1 := Tryz.lvecN 1 0 0 ⟨1, 0, 0⟩ (by decide) (by decide) (by decide) (by decide +kernel) (by decide +kernel) (by decide +kernel)
 have v2 := Tryz.lvecN 0 0 2 ⟨0, 0, 2⟩ (by decide) (by decide) (by decide) (by decide +kernel) (by decide +kernel) (by decide +kernel)
 have v3 := Tryz.lvecN 3 4 5 ⟨3, 4, 5⟩ (by decide) (by decide) (by decide) (by decide +kernel) (by decide +kernel) (by decide +kernel)
 have v4 := Tryz.lvecN 3 4 11 ⟨3, 4, 11⟩ (by decide) (by decide) (by decide) (by decide +kernel) (by decide +kernel) (by decide +kernel)
 have v5 := Tryz.lvecN 1 1 0 ⟨1, 1, 0⟩ (by decide) (by decide) (by decide) (by decide +kernel) (by decide +kernel) (by decide +kernel)
 have v6 := Tryz.lvecN 0 0 1 ⟨0, 0, 1⟩ (by decide) (by decide) (by decide) (by decide +kernel) (by decide +kernel) (by decide +kernel)
 have v7 := Tryz.lvecN 0 (-1) 0 ⟨0, -1, 0⟩ (by decide) (by decide) (by decide) (by decide +kernel) (by decide +kernel) (by decide +kernel)
 have sh : Con Tryz.prog Tryz.L 28 [.agg (V3.L ⟨1, 0, 0⟩), .agg (V3.L ⟨0, 0, 2⟩)] (.tup [.agg shearM.L, .int .i64 0]) := Tryz.aShear ⟨1, 0, 0⟩ ⟨0, 0, 2⟩ ⟨by decide +kernel, by decide +kernel, by decide +kernel⟩ ⟨by decide +kernel, by decide +kernel, by decide +kernel⟩ (by decide +kernel)
 have hA : (shearM.g.app ⟨3, 4, 5⟩).add shearM.s = ⟨3, 4, 11⟩ := V3.ext' (by decide +kernel) (by decide +kernel) (by decide +kernel)
 have ap := Tryz.aApply shearM ⟨3, 4, 5⟩ ⟨⟨⟨by decide +kernel, by decide +kernel, by decide +kernel⟩, ⟨by decide +kernel, by decide +kernel, by decide +kernel⟩, ⟨by decide +kernel, by decide +kernel, by decide +kernel⟩⟩, ⟨by decide +kernel, by decide +kernel, by decide +kernel⟩⟩ ⟨by decide +kernel, by decide +kernel, by decide +kernel⟩ (by rw [hA]; exact ⟨by decide +kernel, by decide +kernel, by decide +kernel⟩)
 rw [hA] at ap
 have tu := Tryz.lturn
 have fi := Tryz.lturnFixed
 have hB : turnM.g.tr.app ⟨1, 0, 0⟩ = ⟨0, -1, 0⟩ := V3.ext' (by decide +kernel) (by decide +kernel) (by decide +kernel)
 have hC : (0 : Rat) - V3.dot ⟨1, 0, 0⟩ turnM.s = -2 := by decide +kernel
 have pu := Tryz.aPull turnM ⟨1, 0, 0⟩ 0 (M3.rd_mono turn_cb.rd (by decide)) ⟨by decide +kernel, by decide +kernel, by decide +kernel⟩ (by decide +kernel) (fun h => absurd h.1 (by decide +kernel)) (by rw [hB]; exact fun h => absurd h.2.1 (by decide +kernel)) (by rw [hB]; exact ⟨by decide +kernel, by decide +kernel, by decide +kernel⟩) (by rw [hC]; decide +kernel)
 rw [hB, hC] at pu
 have r2 : rt (-2) = [45, 50] := by decide +kernel
 generalize turnM = T at *
 generalize shearM = M at *
 refine rule13 Tryz.hL rfl rfl rfl ?_
 simp only [V3.L, M3.L, pL, rt0, r2, pc13, rs13, oU, oC, evX, evY, evZ, forall_const, implies_true, initE, stepF, D.clean, mvF, moF, tkF, shF, ariF, ciF, catF, scF, ebF, eqF, eqOk, eqPr, enF, notF, ngF, cvF, csF, csbF, lenF, lenSF, ixF, iaF, PX.slot, iaAF, faF, ldF, D.mem, stF, bxF, mkSF, boundF, fldF, ixAF, mmF2, D.plain, D.isPure, optAll, D.dull, callVF, splice, D.cells, D.one, sets, resT, D.flat, D.flat0, D.simple, Nat.reduceBNe, Nat.reduceLT, reduceIte, Nat.reduceEqDiff, Nat.reduceAdd, Nat.reduceMul, Nat.reduceSub, Nat.reduceLeDiff, Int.reduceToNat, Int.reduceLT, Int.reduceLE, Int.reduceEq, Int.reduceNeg, Int.reduceSub, Int.reduceAdd, Int.reduceMul, stG_own] at v1 v2 v3 v4 v5 v6 v7 sh ap tu fi pu ⊢
 refine callF_of v1 ?_
 (refine ev ?_; try exact ⟨⟩)
 refine callF_of v2 ?_
 (refine ev ?_; try exact ⟨⟩)
 refine callF_of sh ?_
 (refine ev ?_; try exact ⟨⟩)
 refine callF_of v3 ?_
 (refine ev ?_; try exact ⟨⟩)
 refine callF_of ap ?_
 (refine ev ?_; try exact ⟨⟩)
 refine callF_of tu ?_
 (refine ev ?_; try exact ⟨⟩)
 refine callF_of fi ?_
 (refine ev ?_; try exact ⟨⟩)
 refine callF_of tu ?_
 (refine ev ?_; try exact ⟨⟩)
 refine callF_of v1 ?_
 (refine ev ?_; try exact ⟨⟩)
 refine callF_of pu ?_
 (refine ev ?_; try exact ⟨⟩)
 refine callF_of v4 ?_
 (refine ev ?_; try exact ⟨⟩)
 refine callF_of v5 ?_
 (refine ev ?_; try exact ⟨⟩)
 refine ⟨fun _ => ⟨by decide, ?_⟩, fun h => h rfl⟩
 refine callF_of v6 ?_
 (refine ev ?_; try exact ⟨⟩)
 refine callF_of v7 ?_
 (refine ev ?_; try exact ⟨⟩)
end Go.Proofs

/-
 AFFINE: numbers that are not right; AffineApplies; printed by tools/aff7.py. Own work.
-/
namespace Go.Proofs
open Go Go.Pi Go.RowKit Go.Shelf Go.Ar Go.Mx

theorem Tryz.afirst1b (v : T3) (h : v.sz 1000000) (hb : ¬v.ok) : Con Tryz.prog Tryz.L 74 [.sl 1 v.L] (.int .i64 2) := by
 have fi := Tryz.tfirst [v] (by simp) (all1.2 h)
 rw [chk_f (fun h => hb (all1.1 h))] at fi
 have e : tsD [v] = v.L := by simp [tsD]
 rw [e] at fi
 exact fi
theorem v3sf {v : V3} {D k : Nat} (h : v.CB D k) (h0 : 0 < D := by decide) (h1 : D ≤ 1000000000 := by decide) (h2 : k ≤ 1000000000 := by decide) : v.SF := h.sf h0 h1 h2
end Go.Proofs

/-
 AFFINE: sizes of the inverse map; AffineInverts; printed by tools/aff8.py. Own work.
-/
namespace Go.Proofs
open Go Go.Pi Go.RowKit Go.Shelf Go.Ar Go.Mx

end Go.Proofs

/-
 AFFINE: planes with a wrong number; what must not vanish; AffinePlanes; printed by tools/aff9.py. Own work.
-/
namespace Go.Proofs
open Go Go.Pi Go.RowKit Go.Shelf Go.Ar Go.Mx

/-- a plane whose offset is any text -/
def pT (v : V3) (b : List UInt8) : List D := [.str (rt v.x), .str (rt v.y), .str (rt v.z), .str b]
theorem V3.CB.col {D k : Nat} {g : G3} (ha : g.a.CB D k) (hb : g.b.CB D k) (hc : g.c.CB D k) (i : Nat) : (g.col i).CB D k := ⟨ha.at' i, hb.at' i, hc.at' i⟩
end Go.Proofs

/-
 AFFINE: what is kept: fixed places with the free directions, a plane pulled and pushed (plain, with the contracts). Own work.
-/
namespace Go.Proofs
open Go Go.Pi Go.RowKit Go.Shelf Go.Ar Go.Mx

/-- the place with the same multiple of the first directions -/
def accP (P : V3) (q : Rat) (K : Nat → V3) : Nat → V3
 | 0 => P
 | i + 1 => ⟨(accP P q K i).x + q * (K i).x, (accP P q K i).y + q * (K i).y, (accP P q K i).z + q * (K i).z⟩
/-- sizes -/
def V3.nb (k l : Nat) (v : V3) : Prop := NB k l v.x ∧ NB k l v.y ∧ NB k l v.z
theorem V3.nb_rd {k l : Nat} {v : V3} (h : v.nb k l) (h1 : l ≤ k) : v.rd (k + 1) := ⟨rd_of_nb (h.1.mono (Nat.le_refl _) h1), rd_of_nb (h.2.1.mono (Nat.le_refl _) h1), rd_of_nb (h.2.2.mono (Nat.le_refl _) h1)⟩
/-! a plane pulled and pushed -/
end Go.Proofs

/-
 AFFINE: what is known of Fixed, its sizes kept from the eye of the elaborator. Own work.
-/
namespace Go.Proofs
open Go Go.Pi Go.RowKit Go.Shelf Go.Ar Go.Mx

end Go.Proofs

/-
 AFFINE: AffineKeeps; printed by tools/aff10.py. Own work.
-/
namespace Go.Proofs
open Go Go.Pi Go.RowKit Go.Shelf Go.Ar Go.Mx

end Go.Proofs

/-
 AFFINE: the numbers of a vector and of a map, as the law lists them; which are long or wrong. Own work.
-/
namespace Go.Proofs
open Go Go.Pi Go.RowKit Go.Shelf Go.Ar Go.Mx

theorem Tryz.knumbers (v : T3) : Con Tryz.prog Tryz.L 26 [.agg v.L] (.own true 28 3 v.L) := by
 refine rule26 Tryz.hL rfl rfl rfl ?_
 simp only [T3.L, pc26, rs26, oU, oC, evX, evY, evZ, forall_const, implies_true, initE, stepF, D.clean, mvF, moF, tkF, shF, ariF, ciF, catF, scF, ebF, eqF, eqOk, eqPr, enF, notF, ngF, cvF, csF, csbF, lenF, lenSF, ixF, iaF, PX.slot, iaAF, faF, ldF, D.mem, stF, bxF, mkSF, boundF, fldF, ixAF, mmF2, D.plain, D.isPure, optAll, D.dull, callVF, splice, D.cells, D.one, sets, resT, D.flat, D.flat0, D.simple, Nat.reduceBNe, Nat.reduceLT, reduceIte, Nat.reduceEqDiff, Nat.reduceAdd, Nat.reduceMul, Nat.reduceSub, Nat.reduceLeDiff, Int.reduceToNat, Int.reduceLT, Int.reduceLE, Int.reduceEq, Int.reduceNeg, Int.reduceSub, Int.reduceAdd, Int.reduceMul, stG_own]
theorem Tryz.klong (l : List (List UInt8)) (hl : l.length ≤ 1048576) : Con Tryz.prog Tryz.L 25 [.sl l.length (txs l)] (.bool (dB (¬∀ s ∈ l, s.length ≤ 30))) := by
 refine rule25 Tryz.hL rfl rfl rfl ?_
 (simp only [pc25, rs25, oU, oC]; refine ev ?_; try exact ⟨⟩)
 refine loopF_of (fun E => ∃ k : Nat, k ≤ l.length ∧ (∀ j, j < k → (l.getD j []).length ≤ 30) ∧ E = [(0, .sl l.length (txs l)), (3, .int .i64 k)])
  (fun E => match lk E 3 with | .int _ i => l.length - i.toNat | _ => 0) ⟨0, Nat.zero_le _, fun _ h => absurd h (Nat.not_lt_zero _), rfl⟩ ?_
 rintro _ ⟨k, hk, hz, rfl⟩
 simp only [evX, evY, evZ, forall_const, implies_true, initE, stepF, D.clean, mvF, moF, tkF, shF, ariF, ciF, catF, scF, ebF, eqF, eqOk, eqPr, enF, notF, ngF, cvF, csF, csbF, lenF, lenSF, ixF, iaF, PX.slot, iaAF, faF, ldF, D.mem, stF, bxF, mkSF, boundF, fldF, ixAF, mmF2, D.plain, D.isPure, optAll, D.dull, callVF, splice, D.cells, D.one, sets, resT, D.flat, D.flat0, D.simple, Nat.reduceBNe, Nat.reduceLT, reduceIte, Nat.reduceEqDiff, Nat.reduceAdd, Nat.reduceMul, Nat.reduceSub, Nat.reduceLeDiff, Int.reduceToNat, Int.reduceLT, Int.reduceLE, Int.reduceEq, Int.reduceNeg, Int.reduceSub, Int.reduceAdd, Int.reduceMul, stG_own, ldC_txs]
 refine ⟨fun h3 => ⟨⟨by omega, by omega, by rw [List.length_map]; omega⟩, by omega, fun h4 => ?_, fun h4 => ?_⟩, fun h3 => ?_⟩
 ·exact (dB_iff.2 fun h => by have := h _ (getD_mem (show k < l.length by omega)); omega).symm
 ·refine ⟨by omega, ⟨k + 1, by omega, fun j hj => ?_, by simp⟩, by omega⟩
  by_cases e : j = k
  ·rw [e]; omega
  ·exact hz j (by omega)
 ·refine (dB_not.2 fun hn => hn fun s hs => ?_).symm
  obtain ⟨j, hj, rfl⟩ := List.getElem_of_mem hs
  have := hz j (by omega)
  rwa [List.getD_eq_getElem?_getD, List.getElem?_eq_getElem hj] at this
theorem Tryz.kwrong (l : List (List UInt8)) (hl : l.length ≤ 1048576) (hs : ∀ s ∈ l, s.length ≤ 1000000) : Con Tryz.prog Tryz.L 29 [.sl l.length (txs l)] (.bool (dB (¬∀ s ∈ l, okR s))) := by
 refine rule29 Tryz.hL rfl rfl rfl ?_
 (simp only [pc29, rs29, oU, oC]; refine ev ?_; try exact ⟨⟩)
 refine loopF_of (fun E => ∃ k : Nat, k ≤ l.length ∧ (∀ j, j < k → okR (l.getD j [])) ∧ E = [(0, .sl l.length (txs l)), (3, .int .i64 k)])
  (fun E => match lk E 3 with | .int _ i => l.length - i.toNat | _ => 0) ⟨0, Nat.zero_le _, fun _ h => absurd h (Nat.not_lt_zero _), rfl⟩ ?_
 rintro _ ⟨k, hk, hz, rfl⟩
 simp only [evX, evY, evZ, forall_const, implies_true, initE, stepF, D.clean, mvF, moF, tkF, shF, ariF, ciF, catF, scF, ebF, eqF, eqOk, eqPr, enF, notF, ngF, cvF, csF, csbF, lenF, lenSF, ixF, iaF, PX.slot, iaAF, faF, ldF, D.mem, stF, bxF, mkSF, boundF, fldF, ixAF, mmF2, D.plain, D.isPure, optAll, D.dull, callVF, splice, D.cells, D.one, sets, resT, D.flat, D.flat0, D.simple, Nat.reduceBNe, Nat.reduceLT, reduceIte, Nat.reduceEqDiff, Nat.reduceAdd, Nat.reduceMul, Nat.reduceSub, Nat.reduceLeDiff, Int.reduceToNat, Int.reduceLT, Int.reduceLE, Int.reduceEq, Int.reduceNeg, Int.reduceSub, Int.reduceAdd, Int.reduceMul, stG_own, ldC_txs]
 refine ⟨fun h3 => ⟨⟨by omega, by omega, by rw [List.length_map]; omega⟩, by omega, ?_⟩, fun h3 => ?_⟩
 ·have hk2 : k < l.length := by omega
  refine callF_of (Tryz.rcheck (l.getD k []) (hs _ (getD_mem hk2))) ?_
  (refine ev ?_; try exact ⟨⟩)
  refine ⟨fun h4 => ?_, fun h4 => ?_⟩
  ·exact (dB_iff.2 fun h => h4 (chk_0.2 (h _ (getD_mem hk2)))).symm
  ·have h4 : okR (l.getD k []) := chk_0.1 (Classical.not_not.1 h4)
   refine ⟨by omega, ⟨k + 1, by omega, fun j hj => ?_, by simp⟩, by omega⟩
   by_cases e : j = k
   ·rw [e]; exact h4
   ·exact hz j (by omega)
 ·refine (dB_not.2 fun hn => hn fun s hs => ?_).symm
  obtain ⟨j, hj, rfl⟩ := List.getElem_of_mem hs
  have := hz j (by omega)
  rwa [List.getD_eq_getElem?_getD, List.getElem?_eq_getElem hj] at this
/-- the numbers of a map, as the law lists them -/
def TM.all (m : TM) : List D := m.s.L ++ m.a.L ++ m.b.L ++ m.c.L
theorem Tryz.kall (m : TM) : Con Tryz.prog Tryz.L 53 [.agg m.L] (.own true 28 12 m.all) := by
 have na := Tryz.knumbers m.a; have nb := Tryz.knumbers m.b; have nc := Tryz.knumbers m.c; have ns := Tryz.knumbers m.s
 refine rule53 Tryz.hL rfl rfl rfl ?_
 simp only [TM.L, T3.L, pc53, rs53, oU, oC, evX, evY, evZ, forall_const, implies_true, initE, stepF, D.clean, mvF, moF, tkF, shF, ariF, ciF, catF, scF, ebF, eqF, eqOk, eqPr, enF, notF, ngF, cvF, csF, csbF, lenF, lenSF, ixF, iaF, PX.slot, iaAF, faF, ldF, D.mem, stF, bxF, mkSF, boundF, fldF, ixAF, mmF2, D.plain, D.isPure, optAll, D.dull, callVF, splice, D.cells, D.one, sets, resT, D.flat, D.flat0, D.simple, Nat.reduceBNe, Nat.reduceLT, reduceIte, Nat.reduceEqDiff, Nat.reduceAdd, Nat.reduceMul, Nat.reduceSub, Nat.reduceLeDiff, Int.reduceToNat, Int.reduceLT, Int.reduceLE, Int.reduceEq, Int.reduceNeg, Int.reduceSub, Int.reduceAdd, Int.reduceMul, stG_own] at na nb nc ns ⊢
 repeat (refine ⟨by decide, ?_⟩)
 refine callF_of ns ?_
 (refine ev ?_; try exact ⟨⟩)
 refine loopF_of (fun E => ∃ (i : Int) (n : Nat) (l : List D), ((i = 0 ∧ n = 3 ∧ l = m.s.L) ∨ (i = 1 ∧ n = 6 ∧ l = m.s.L ++ m.a.L) ∨ (i = 2 ∧ n = 9 ∧ l = m.s.L ++ m.a.L ++ m.b.L) ∨ (i = 3 ∧ n = 12 ∧ l = m.all)) ∧ E = [(1, .box true m.L), (3, .own true 28 n l), (4, .int .i64 i)])
  (fun E => match lk E 4 with | .int _ i => (3 - i).toNat | _ => 0) ⟨0, 3, _, .inl ⟨rfl, rfl, rfl⟩, by simp [TM.L, T3.L]⟩ ?_
 rintro _ ⟨i, n, l, hp, rfl⟩
 rcases hp with ⟨rfl, rfl, rfl⟩ | ⟨rfl, rfl, rfl⟩ | ⟨rfl, rfl, rfl⟩ | ⟨rfl, rfl, rfl⟩
 ·simp only [TM.L, T3.L, evX, evY, evZ, forall_const, implies_true, initE, stepF, D.clean, mvF, moF, tkF, shF, ariF, ciF, catF, scF, ebF, eqF, eqOk, eqPr, enF, notF, ngF, cvF, csF, csbF, lenF, lenSF, ixF, iaF, PX.slot, iaAF, faF, ldF, D.mem, stF, bxF, mkSF, boundF, fldF, ixAF, mmF2, D.plain, D.isPure, optAll, D.dull, callVF, splice, D.cells, D.one, sets, resT, D.flat, D.flat0, D.simple, Nat.reduceBNe, Nat.reduceLT, reduceIte, Nat.reduceEqDiff, Nat.reduceAdd, Nat.reduceMul, Nat.reduceSub, Nat.reduceLeDiff, Int.reduceToNat, Int.reduceLT, Int.reduceLE, Int.reduceEq, Int.reduceNeg, Int.reduceSub, Int.reduceAdd, Int.reduceMul, stG_own]
  repeat (refine ⟨by decide, ?_⟩)
  refine callF_of na ?_
  (refine ev ?_; try exact ⟨⟩)
  repeat (refine ⟨by decide, ?_⟩)
  exact ⟨1, 6, _, .inr (.inl ⟨rfl, rfl, rfl⟩), by simp [TM.L, T3.L]⟩
 ·simp only [TM.L, T3.L, evX, evY, evZ, forall_const, implies_true, initE, stepF, D.clean, mvF, moF, tkF, shF, ariF, ciF, catF, scF, ebF, eqF, eqOk, eqPr, enF, notF, ngF, cvF, csF, csbF, lenF, lenSF, ixF, iaF, PX.slot, iaAF, faF, ldF, D.mem, stF, bxF, mkSF, boundF, fldF, ixAF, mmF2, D.plain, D.isPure, optAll, D.dull, callVF, splice, D.cells, D.one, sets, resT, D.flat, D.flat0, D.simple, Nat.reduceBNe, Nat.reduceLT, reduceIte, Nat.reduceEqDiff, Nat.reduceAdd, Nat.reduceMul, Nat.reduceSub, Nat.reduceLeDiff, Int.reduceToNat, Int.reduceLT, Int.reduceLE, Int.reduceEq, Int.reduceNeg, Int.reduceSub, Int.reduceAdd, Int.reduceMul, stG_own]
  repeat (refine ⟨by decide, ?_⟩)
  refine callF_of nb ?_
  (refine ev ?_; try exact ⟨⟩)
  repeat (refine ⟨by decide, ?_⟩)
  exact ⟨2, 9, _, .inr (.inr (.inl ⟨rfl, rfl, rfl⟩)), by simp [TM.L, T3.L]⟩
 ·simp only [TM.L, T3.L, evX, evY, evZ, forall_const, implies_true, initE, stepF, D.clean, mvF, moF, tkF, shF, ariF, ciF, catF, scF, ebF, eqF, eqOk, eqPr, enF, notF, ngF, cvF, csF, csbF, lenF, lenSF, ixF, iaF, PX.slot, iaAF, faF, ldF, D.mem, stF, bxF, mkSF, boundF, fldF, ixAF, mmF2, D.plain, D.isPure, optAll, D.dull, callVF, splice, D.cells, D.one, sets, resT, D.flat, D.flat0, D.simple, Nat.reduceBNe, Nat.reduceLT, reduceIte, Nat.reduceEqDiff, Nat.reduceAdd, Nat.reduceMul, Nat.reduceSub, Nat.reduceLeDiff, Int.reduceToNat, Int.reduceLT, Int.reduceLE, Int.reduceEq, Int.reduceNeg, Int.reduceSub, Int.reduceAdd, Int.reduceMul, stG_own]
  repeat (refine ⟨by decide, ?_⟩)
  refine callF_of nc ?_
  (refine ev ?_; try exact ⟨⟩)
  repeat (refine ⟨by decide, ?_⟩)
  exact ⟨3, 12, _, .inr (.inr (.inr ⟨rfl, rfl, rfl⟩)), by simp [TM.L, T3.L, TM.all]⟩
 ·simp only [TM.L, TM.all, T3.L, evX, evY, evZ, forall_const, implies_true, initE, stepF, D.clean, mvF, moF, tkF, shF, ariF, ciF, catF, scF, ebF, eqF, eqOk, eqPr, enF, notF, ngF, cvF, csF, csbF, lenF, lenSF, ixF, iaF, PX.slot, iaAF, faF, ldF, D.mem, stF, bxF, mkSF, boundF, fldF, ixAF, mmF2, D.plain, D.isPure, optAll, D.dull, callVF, splice, D.cells, D.one, sets, resT, D.flat, D.flat0, D.simple, Nat.reduceBNe, Nat.reduceLT, reduceIte, Nat.reduceEqDiff, Nat.reduceAdd, Nat.reduceMul, Nat.reduceSub, Nat.reduceLeDiff, Int.reduceToNat, Int.reduceLT, Int.reduceLE, Int.reduceEq, Int.reduceNeg, Int.reduceSub, Int.reduceAdd, Int.reduceMul, stG_own]
end Go.Proofs

/-
 AFFINE: maps with wrong numbers; Equal; the reference's Identity; printed by tools/aff11.py. Own work.
-/
namespace Go.Proofs
open Go Go.Pi Go.RowKit Go.Shelf Go.Ar Go.Mx

theorem Tryz.acheck2 (m : TM) (h : m.sz 1000000) (hb : ¬m.ok) : Con Tryz.prog Tryz.L 54 [.agg m.L] (.int .i64 2) := by
 have := Tryz.acheck m h
 rw [chk_f hb] at this
 exact this
set_option maxHeartbeats 2000000 in
theorem Tryz.eCompose1 (m : TM) (h : m.sz 1000000) (hb : ¬m.ok) (n : TM) : Con Tryz.prog Tryz.L 44 [.agg m.L, .agg n.L] (.tup [.agg [.str [], .str [], .str [], .str [], .str [], .str [], .str [], .str [], .str [], .str [], .str [], .str []], .int .i64 2]) := by
 have ck := Tryz.acheck2 m h hb
 refine rule44 Tryz.hL rfl rfl rfl ?_
 simp only [TM.L, T3.L, V3.L, M3.L, G3.L, pc44, rs44, oU, oC, evX, evY, evZ, forall_const, implies_true, initE, stepF, D.clean, mvF, moF, tkF, shF, ariF, ciF, catF, scF, ebF, eqF, eqOk, eqPr, enF, notF, ngF, cvF, csF, csbF, lenF, lenSF, ixF, iaF, PX.slot, iaAF, faF, ldF, D.mem, stF, bxF, mkSF, boundF, fldF, ixAF, mmF2, D.plain, D.isPure, optAll, D.dull, callVF, splice, D.cells, D.one, sets, resT, D.flat, D.flat0, D.simple, Nat.reduceBNe, Nat.reduceLT, reduceIte, Nat.reduceEqDiff, Nat.reduceAdd, Nat.reduceMul, Nat.reduceSub, Nat.reduceLeDiff, Int.reduceToNat, Int.reduceLT, Int.reduceLE, Int.reduceEq, Int.reduceNeg, Int.reduceSub, Int.reduceAdd, Int.reduceMul, stG_own] at ck ⊢
 repeat (refine ⟨by decide, ?_⟩)
 refine callF_of ck ?_
 (refine ev ?_; try exact ⟨⟩)
 all_goals rfl
set_option maxHeartbeats 2000000 in
theorem Tryz.eCompose2 (n : M3) (hn : n.rd 200) (m : TM) (h : m.sz 1000000) (hb : ¬m.ok) : Con Tryz.prog Tryz.L 44 [.agg n.L, .agg m.L] (.tup [.agg [.str [], .str [], .str [], .str [], .str [], .str [], .str [], .str [], .str [], .str [], .str [], .str []], .int .i64 2]) := by
 have cn := Tryz.amcheck n hn
 have ck := Tryz.acheck2 m h hb
 refine rule44 Tryz.hL rfl rfl rfl ?_
 simp only [TM.L, T3.L, V3.L, M3.L, G3.L, pc44, rs44, oU, oC, evX, evY, evZ, forall_const, implies_true, initE, stepF, D.clean, mvF, moF, tkF, shF, ariF, ciF, catF, scF, ebF, eqF, eqOk, eqPr, enF, notF, ngF, cvF, csF, csbF, lenF, lenSF, ixF, iaF, PX.slot, iaAF, faF, ldF, D.mem, stF, bxF, mkSF, boundF, fldF, ixAF, mmF2, D.plain, D.isPure, optAll, D.dull, callVF, splice, D.cells, D.one, sets, resT, D.flat, D.flat0, D.simple, Nat.reduceBNe, Nat.reduceLT, reduceIte, Nat.reduceEqDiff, Nat.reduceAdd, Nat.reduceMul, Nat.reduceSub, Nat.reduceLeDiff, Int.reduceToNat, Int.reduceLT, Int.reduceLE, Int.reduceEq, Int.reduceNeg, Int.reduceSub, Int.reduceAdd, Int.reduceMul, stG_own] at cn ck ⊢
 repeat (refine ⟨by decide, ?_⟩)
 refine callF_of cn ?_
 (refine ev ?_; try exact ⟨⟩)
 repeat (refine ⟨by decide, ?_⟩)
 refine callF_of ck ?_
 (refine ev ?_; try exact ⟨⟩)
 all_goals rfl
set_option maxHeartbeats 2000000 in
theorem Tryz.eInverse (m : TM) (h : m.sz 1000000) (hb : ¬m.ok) : Con Tryz.prog Tryz.L 34 [.agg m.L] (.tup [.agg [.str [], .str [], .str [], .str [], .str [], .str [], .str [], .str [], .str [], .str [], .str [], .str []], .int .i64 2]) := by
 have ck := Tryz.acheck2 m h hb
 refine rule34 Tryz.hL rfl rfl rfl ?_
 simp only [TM.L, T3.L, V3.L, M3.L, G3.L, pc34, rs34, oU, oC, evX, evY, evZ, forall_const, implies_true, initE, stepF, D.clean, mvF, moF, tkF, shF, ariF, ciF, catF, scF, ebF, eqF, eqOk, eqPr, enF, notF, ngF, cvF, csF, csbF, lenF, lenSF, ixF, iaF, PX.slot, iaAF, faF, ldF, D.mem, stF, bxF, mkSF, boundF, fldF, ixAF, mmF2, D.plain, D.isPure, optAll, D.dull, callVF, splice, D.cells, D.one, sets, resT, D.flat, D.flat0, D.simple, Nat.reduceBNe, Nat.reduceLT, reduceIte, Nat.reduceEqDiff, Nat.reduceAdd, Nat.reduceMul, Nat.reduceSub, Nat.reduceLeDiff, Int.reduceToNat, Int.reduceLT, Int.reduceLE, Int.reduceEq, Int.reduceNeg, Int.reduceSub, Int.reduceAdd, Int.reduceMul, stG_own] at ck ⊢
 repeat (refine ⟨by decide, ?_⟩)
 refine callF_of ck ?_
 (refine ev ?_; try exact ⟨⟩)
 all_goals rfl
set_option maxHeartbeats 2000000 in
theorem Tryz.eDet (m : TM) (h : m.sz 1000000) (hb : ¬m.ok) : Con Tryz.prog Tryz.L 45 [.agg m.L] (.tup [.str [], .int .i64 2]) := by
 have ck := Tryz.acheck2 m h hb
 refine rule45 Tryz.hL rfl rfl rfl ?_
 simp only [TM.L, T3.L, V3.L, M3.L, G3.L, pc45, rs45, oU, oC, evX, evY, evZ, forall_const, implies_true, initE, stepF, D.clean, mvF, moF, tkF, shF, ariF, ciF, catF, scF, ebF, eqF, eqOk, eqPr, enF, notF, ngF, cvF, csF, csbF, lenF, lenSF, ixF, iaF, PX.slot, iaAF, faF, ldF, D.mem, stF, bxF, mkSF, boundF, fldF, ixAF, mmF2, D.plain, D.isPure, optAll, D.dull, callVF, splice, D.cells, D.one, sets, resT, D.flat, D.flat0, D.simple, Nat.reduceBNe, Nat.reduceLT, reduceIte, Nat.reduceEqDiff, Nat.reduceAdd, Nat.reduceMul, Nat.reduceSub, Nat.reduceLeDiff, Int.reduceToNat, Int.reduceLT, Int.reduceLE, Int.reduceEq, Int.reduceNeg, Int.reduceSub, Int.reduceAdd, Int.reduceMul, stG_own] at ck ⊢
 repeat (refine ⟨by decide, ?_⟩)
 refine callF_of ck ?_
 (refine ev ?_; try exact ⟨⟩)
 all_goals rfl
set_option maxHeartbeats 2000000 in
theorem Tryz.eIso (m : TM) (h : m.sz 1000000) (hb : ¬m.ok) : Con Tryz.prog Tryz.L 46 [.agg m.L] (.tup [.bool false, .int .i64 2]) := by
 have ck := Tryz.acheck2 m h hb
 refine rule46 Tryz.hL rfl rfl rfl ?_
 simp only [TM.L, T3.L, V3.L, M3.L, G3.L, pc46, rs46, oU, oC, evX, evY, evZ, forall_const, implies_true, initE, stepF, D.clean, mvF, moF, tkF, shF, ariF, ciF, catF, scF, ebF, eqF, eqOk, eqPr, enF, notF, ngF, cvF, csF, csbF, lenF, lenSF, ixF, iaF, PX.slot, iaAF, faF, ldF, D.mem, stF, bxF, mkSF, boundF, fldF, ixAF, mmF2, D.plain, D.isPure, optAll, D.dull, callVF, splice, D.cells, D.one, sets, resT, D.flat, D.flat0, D.simple, Nat.reduceBNe, Nat.reduceLT, reduceIte, Nat.reduceEqDiff, Nat.reduceAdd, Nat.reduceMul, Nat.reduceSub, Nat.reduceLeDiff, Int.reduceToNat, Int.reduceLT, Int.reduceLE, Int.reduceEq, Int.reduceNeg, Int.reduceSub, Int.reduceAdd, Int.reduceMul, stG_own] at ck ⊢
 repeat (refine ⟨by decide, ?_⟩)
 refine callF_of ck ?_
 (refine ev ?_; try exact ⟨⟩)
 all_goals rfl
set_option maxHeartbeats 2000000 in
theorem Tryz.eCheckWith (m : TM) (h : m.sz 1000000) (hb : ¬m.ok) (v : T3) : Con Tryz.prog Tryz.L 71 [.agg m.L, .agg v.L] (.int .i64 2) := by
 have ck := Tryz.acheck2 m h hb
 refine rule71 Tryz.hL rfl rfl rfl ?_
 simp only [TM.L, T3.L, V3.L, M3.L, G3.L, pc71, rs71, oU, oC, evX, evY, evZ, forall_const, implies_true, initE, stepF, D.clean, mvF, moF, tkF, shF, ariF, ciF, catF, scF, ebF, eqF, eqOk, eqPr, enF, notF, ngF, cvF, csF, csbF, lenF, lenSF, ixF, iaF, PX.slot, iaAF, faF, ldF, D.mem, stF, bxF, mkSF, boundF, fldF, ixAF, mmF2, D.plain, D.isPure, optAll, D.dull, callVF, splice, D.cells, D.one, sets, resT, D.flat, D.flat0, D.simple, Nat.reduceBNe, Nat.reduceLT, reduceIte, Nat.reduceEqDiff, Nat.reduceAdd, Nat.reduceMul, Nat.reduceSub, Nat.reduceLeDiff, Int.reduceToNat, Int.reduceLT, Int.reduceLE, Int.reduceEq, Int.reduceNeg, Int.reduceSub, Int.reduceAdd, Int.reduceMul, stG_own] at ck ⊢
 repeat (refine ⟨by decide, ?_⟩)
 refine callF_of ck ?_
 (refine ev ?_; try exact ⟨⟩)
 all_goals rfl
set_option maxHeartbeats 2000000 in
theorem Tryz.eCheckPlane (m : TM) (h : m.sz 1000000) (hb : ¬m.ok) (v : T3) (o : List UInt8) : Con Tryz.prog Tryz.L 89 [.agg m.L, .agg [.str v.x, .str v.y, .str v.z, .str o]] (.int .i64 2) := by
 have ck := Tryz.acheck2 m h hb
 refine rule89 Tryz.hL rfl rfl rfl ?_
 simp only [TM.L, T3.L, V3.L, M3.L, G3.L, pc89, rs89, oU, oC, evX, evY, evZ, forall_const, implies_true, initE, stepF, D.clean, mvF, moF, tkF, shF, ariF, ciF, catF, scF, ebF, eqF, eqOk, eqPr, enF, notF, ngF, cvF, csF, csbF, lenF, lenSF, ixF, iaF, PX.slot, iaAF, faF, ldF, D.mem, stF, bxF, mkSF, boundF, fldF, ixAF, mmF2, D.plain, D.isPure, optAll, D.dull, callVF, splice, D.cells, D.one, sets, resT, D.flat, D.flat0, D.simple, Nat.reduceBNe, Nat.reduceLT, reduceIte, Nat.reduceEqDiff, Nat.reduceAdd, Nat.reduceMul, Nat.reduceSub, Nat.reduceLeDiff, Int.reduceToNat, Int.reduceLT, Int.reduceLE, Int.reduceEq, Int.reduceNeg, Int.reduceSub, Int.reduceAdd, Int.reduceMul, stG_own] at ck ⊢
 repeat (refine ⟨by decide, ?_⟩)
 refine callF_of ck ?_
 (refine ev ?_; try exact ⟨⟩)
 all_goals rfl
set_option maxHeartbeats 2000000 in
theorem Tryz.eApply (m : TM) (h : m.sz 1000000) (hb : ¬m.ok) (v : T3) : Con Tryz.prog Tryz.L 20 [.agg m.L, .agg v.L] (.tup [.agg [.str [], .str [], .str []], .int .i64 2]) := by
 have ck := Tryz.eCheckWith m h hb v
 refine rule20 Tryz.hL rfl rfl rfl ?_
 simp only [TM.L, T3.L, V3.L, M3.L, G3.L, pc20, rs20, oU, oC, evX, evY, evZ, forall_const, implies_true, initE, stepF, D.clean, mvF, moF, tkF, shF, ariF, ciF, catF, scF, ebF, eqF, eqOk, eqPr, enF, notF, ngF, cvF, csF, csbF, lenF, lenSF, ixF, iaF, PX.slot, iaAF, faF, ldF, D.mem, stF, bxF, mkSF, boundF, fldF, ixAF, mmF2, D.plain, D.isPure, optAll, D.dull, callVF, splice, D.cells, D.one, sets, resT, D.flat, D.flat0, D.simple, Nat.reduceBNe, Nat.reduceLT, reduceIte, Nat.reduceEqDiff, Nat.reduceAdd, Nat.reduceMul, Nat.reduceSub, Nat.reduceLeDiff, Int.reduceToNat, Int.reduceLT, Int.reduceLE, Int.reduceEq, Int.reduceNeg, Int.reduceSub, Int.reduceAdd, Int.reduceMul, stG_own] at ck ⊢
 repeat (refine ⟨by decide, ?_⟩)
 refine callF_of ck ?_
 (refine ev ?_; try exact ⟨⟩)
 all_goals rfl
set_option maxHeartbeats 2000000 in
theorem Tryz.eDirect (m : TM) (h : m.sz 1000000) (hb : ¬m.ok) (v : T3) : Con Tryz.prog Tryz.L 21 [.agg m.L, .agg v.L] (.tup [.agg [.str [], .str [], .str []], .int .i64 2]) := by
 have ck := Tryz.eCheckWith m h hb v
 refine rule21 Tryz.hL rfl rfl rfl ?_
 simp only [TM.L, T3.L, V3.L, M3.L, G3.L, pc21, rs21, oU, oC, evX, evY, evZ, forall_const, implies_true, initE, stepF, D.clean, mvF, moF, tkF, shF, ariF, ciF, catF, scF, ebF, eqF, eqOk, eqPr, enF, notF, ngF, cvF, csF, csbF, lenF, lenSF, ixF, iaF, PX.slot, iaAF, faF, ldF, D.mem, stF, bxF, mkSF, boundF, fldF, ixAF, mmF2, D.plain, D.isPure, optAll, D.dull, callVF, splice, D.cells, D.one, sets, resT, D.flat, D.flat0, D.simple, Nat.reduceBNe, Nat.reduceLT, reduceIte, Nat.reduceEqDiff, Nat.reduceAdd, Nat.reduceMul, Nat.reduceSub, Nat.reduceLeDiff, Int.reduceToNat, Int.reduceLT, Int.reduceLE, Int.reduceEq, Int.reduceNeg, Int.reduceSub, Int.reduceAdd, Int.reduceMul, stG_own] at ck ⊢
 repeat (refine ⟨by decide, ?_⟩)
 refine callF_of ck ?_
 (refine ev ?_; try exact ⟨⟩)
 all_goals rfl
set_option maxHeartbeats 2000000 in
theorem Tryz.ePull (m : TM) (h : m.sz 1000000) (hb : ¬m.ok) (v : T3) (o : List UInt8) : Con Tryz.prog Tryz.L 41 [.agg m.L, .agg [.str v.x, .str v.y, .str v.z, .str o]] (.tup [.agg [.str [], .str [], .str [], .str []], .int .i64 2]) := by
 have ck := Tryz.eCheckPlane m h hb v o
 refine rule41 Tryz.hL rfl rfl rfl ?_
 simp only [TM.L, T3.L, V3.L, M3.L, G3.L, pc41, rs41, oU, oC, evX, evY, evZ, forall_const, implies_true, initE, stepF, D.clean, mvF, moF, tkF, shF, ariF, ciF, catF, scF, ebF, eqF, eqOk, eqPr, enF, notF, ngF, cvF, csF, csbF, lenF, lenSF, ixF, iaF, PX.slot, iaAF, faF, ldF, D.mem, stF, bxF, mkSF, boundF, fldF, ixAF, mmF2, D.plain, D.isPure, optAll, D.dull, callVF, splice, D.cells, D.one, sets, resT, D.flat, D.flat0, D.simple, Nat.reduceBNe, Nat.reduceLT, reduceIte, Nat.reduceEqDiff, Nat.reduceAdd, Nat.reduceMul, Nat.reduceSub, Nat.reduceLeDiff, Int.reduceToNat, Int.reduceLT, Int.reduceLE, Int.reduceEq, Int.reduceNeg, Int.reduceSub, Int.reduceAdd, Int.reduceMul, stG_own] at ck ⊢
 repeat (refine ⟨by decide, ?_⟩)
 refine callF_of ck ?_
 (refine ev ?_; try exact ⟨⟩)
 all_goals rfl
set_option maxHeartbeats 2000000 in
theorem Tryz.ePush (m : TM) (h : m.sz 1000000) (hb : ¬m.ok) (v : T3) (o : List UInt8) : Con Tryz.prog Tryz.L 42 [.agg m.L, .agg [.str v.x, .str v.y, .str v.z, .str o]] (.tup [.agg [.str [], .str [], .str [], .str []], .int .i64 2]) := by
 have ck := Tryz.eCheckPlane m h hb v o
 refine rule42 Tryz.hL rfl rfl rfl ?_
 simp only [TM.L, T3.L, V3.L, M3.L, G3.L, pc42, rs42, oU, oC, evX, evY, evZ, forall_const, implies_true, initE, stepF, D.clean, mvF, moF, tkF, shF, ariF, ciF, catF, scF, ebF, eqF, eqOk, eqPr, enF, notF, ngF, cvF, csF, csbF, lenF, lenSF, ixF, iaF, PX.slot, iaAF, faF, ldF, D.mem, stF, bxF, mkSF, boundF, fldF, ixAF, mmF2, D.plain, D.isPure, optAll, D.dull, callVF, splice, D.cells, D.one, sets, resT, D.flat, D.flat0, D.simple, Nat.reduceBNe, Nat.reduceLT, reduceIte, Nat.reduceEqDiff, Nat.reduceAdd, Nat.reduceMul, Nat.reduceSub, Nat.reduceLeDiff, Int.reduceToNat, Int.reduceLT, Int.reduceLE, Int.reduceEq, Int.reduceNeg, Int.reduceSub, Int.reduceAdd, Int.reduceMul, stG_own] at ck ⊢
 repeat (refine ⟨by decide, ?_⟩)
 refine callF_of ck ?_
 (refine ev ?_; try exact ⟨⟩)
 all_goals rfl
set_option maxHeartbeats 2000000 in
theorem Tryz.eFixed (m : TM) (h : m.sz 1000000) (hb : ¬m.ok) : Con Tryz.prog Tryz.L 14 [.agg m.L] (.tup [.agg [.str [], .str [], .str []], .sl 0 [], .bool false, .int .i64 2]) := by
 have ck := Tryz.acheck2 m h hb
 refine rule14 Tryz.hL rfl rfl rfl ?_
 simp only [TM.L, T3.L, V3.L, M3.L, G3.L, pc14, rs14, oU, oC, evX, evY, evZ, forall_const, implies_true, initE, stepF, D.clean, mvF, moF, tkF, shF, ariF, ciF, catF, scF, ebF, eqF, eqOk, eqPr, enF, notF, ngF, cvF, csF, csbF, lenF, lenSF, ixF, iaF, PX.slot, iaAF, faF, ldF, D.mem, stF, bxF, mkSF, boundF, fldF, ixAF, mmF2, D.plain, D.isPure, optAll, D.dull, callVF, splice, D.cells, D.one, sets, resT, D.flat, D.flat0, D.simple, Nat.reduceBNe, Nat.reduceLT, reduceIte, Nat.reduceEqDiff, Nat.reduceAdd, Nat.reduceMul, Nat.reduceSub, Nat.reduceLeDiff, Int.reduceToNat, Int.reduceLT, Int.reduceLE, Int.reduceEq, Int.reduceNeg, Int.reduceSub, Int.reduceAdd, Int.reduceMul, stG_own] at ck ⊢
 repeat (refine ⟨by decide, ?_⟩)
 refine callF_of ck ?_
 (refine ev ?_; try exact ⟨⟩)
 all_goals rfl
def TM.same (m n : TM) : Prop := m.a.x = n.a.x ∧ m.a.y = n.a.y ∧ m.a.z = n.a.z ∧ m.b.x = n.b.x ∧ m.b.y = n.b.y ∧ m.b.z = n.b.z ∧ m.c.x = n.c.x ∧ m.c.y = n.c.y ∧ m.c.z = n.c.z ∧ m.s.x = n.s.x ∧ m.s.y = n.s.y ∧ m.s.z = n.s.z
set_option maxHeartbeats 2000000 in
theorem Tryz.aEqual (m n : TM) : Con Tryz.prog Tryz.L 55 [.agg m.L, .agg n.L] (.bool (dB (m.same n))) := by
 refine rule55 Tryz.hL rfl rfl rfl ?_
 simp only [TM.L, T3.L, V3.L, M3.L, G3.L, TM.same, pc55, rs55, oU, oC, evX, evY, evZ, forall_const, implies_true, initE, stepF, D.clean, mvF, moF, tkF, shF, ariF, ciF, catF, scF, ebF, eqF, eqOk, eqPr, enF, notF, ngF, cvF, csF, csbF, lenF, lenSF, ixF, iaF, PX.slot, iaAF, faF, ldF, D.mem, stF, bxF, mkSF, boundF, fldF, ixAF, mmF2, D.plain, D.isPure, optAll, D.dull, callVF, splice, D.cells, D.one, sets, resT, D.flat, D.flat0, D.simple, Nat.reduceBNe, Nat.reduceLT, reduceIte, Nat.reduceEqDiff, Nat.reduceAdd, Nat.reduceMul, Nat.reduceSub, Nat.reduceLeDiff, Int.reduceToNat, Int.reduceLT, Int.reduceLE, Int.reduceEq, Int.reduceNeg, Int.reduceSub, Int.reduceAdd, Int.reduceMul, stG_own]
 repeat (refine ⟨by decide, ?_⟩)
 all_goals rfl
set_option maxHeartbeats 4000000 in
theorem Tryz.widentity : Con Tryz.prog Tryz.L 56 [] (.agg (M3.mk G3.one V3.zero).F) := by
 have wz := Tryz.fzero
 have wo := Tryz.fone
 have e0 : (0 : Rat).num = 0 := rfl
 have e1 : (1 : Rat).num = 1 := rfl
 have d0 : ((0 : Rat).den : Int) = 1 := rfl
 have d1 : ((1 : Rat).den : Int) = 1 := rfl
 refine rule56 Tryz.hL rfl rfl rfl ?_
 simp only [fD, M3.F, V3.F, G3.one, V3.zero, e0, e1, d0, d1, pc56, rs56, oU, oC, evX, evY, evZ, forall_const, implies_true, initE, stepF, D.clean, mvF, moF, tkF, shF, ariF, ciF, catF, scF, ebF, eqF, eqOk, eqPr, enF, notF, ngF, cvF, csF, csbF, lenF, lenSF, ixF, iaF, PX.slot, iaAF, faF, ldF, D.mem, stF, bxF, mkSF, boundF, fldF, ixAF, mmF2, D.plain, D.isPure, optAll, D.dull, callVF, splice, D.cells, D.one, sets, resT, D.flat, D.flat0, D.simple, Nat.reduceBNe, Nat.reduceLT, reduceIte, Nat.reduceEqDiff, Nat.reduceAdd, Nat.reduceMul, Nat.reduceSub, Nat.reduceLeDiff, Int.reduceToNat, Int.reduceLT, Int.reduceLE, Int.reduceEq, Int.reduceNeg, Int.reduceSub, Int.reduceAdd, Int.reduceMul, stG_own] at wz wo ⊢
 refine loopF_of (fun E => ∃ (w : List D) (i : Int), ((i = 0 ∧ w = [.int .i64 0, .int .i64 0, .int .i64 0, .int .i64 0, .int .i64 0, .int .i64 0, .int .i64 0, .int .i64 0, .int .i64 0, .int .i64 0, .int .i64 0, .int .i64 0, .int .i64 0, .int .i64 0, .int .i64 0, .int .i64 0, .int .i64 0, .int .i64 0, .int .i64 0, .int .i64 0, .int .i64 0, .int .i64 0, .int .i64 0, .int .i64 0]) ∨ (i = 1 ∧ w = [.int .i64 1, .int .i64 1, .int .i64 0, .int .i64 1, .int .i64 0, .int .i64 1, .int .i64 0, .int .i64 0, .int .i64 0, .int .i64 0, .int .i64 0, .int .i64 0, .int .i64 0, .int .i64 0, .int .i64 0, .int .i64 0, .int .i64 0, .int .i64 0, .int .i64 0, .int .i64 0, .int .i64 0, .int .i64 0, .int .i64 0, .int .i64 0]) ∨ (i = 2 ∧ w = [.int .i64 1, .int .i64 1, .int .i64 0, .int .i64 1, .int .i64 0, .int .i64 1, .int .i64 0, .int .i64 1, .int .i64 1, .int .i64 1, .int .i64 0, .int .i64 1, .int .i64 0, .int .i64 0, .int .i64 0, .int .i64 0, .int .i64 0, .int .i64 0, .int .i64 0, .int .i64 0, .int .i64 0, .int .i64 0, .int .i64 0, .int .i64 0]) ∨ (i = 3 ∧ w = [.int .i64 1, .int .i64 1, .int .i64 0, .int .i64 1, .int .i64 0, .int .i64 1, .int .i64 0, .int .i64 1, .int .i64 1, .int .i64 1, .int .i64 0, .int .i64 1, .int .i64 0, .int .i64 1, .int .i64 0, .int .i64 1, .int .i64 1, .int .i64 1, .int .i64 0, .int .i64 0, .int .i64 0, .int .i64 0, .int .i64 0, .int .i64 0])) ∧ E = [(0, .box true [.int .i64 0, .int .i64 0, .int .i64 0, .int .i64 0, .int .i64 0, .int .i64 0, .int .i64 0, .int .i64 0, .int .i64 0, .int .i64 0, .int .i64 0, .int .i64 0, .int .i64 0, .int .i64 0, .int .i64 0, .int .i64 0, .int .i64 0, .int .i64 0, .int .i64 0, .int .i64 0, .int .i64 0, .int .i64 0, .int .i64 0, .int .i64 0]), (1, .box true w), (2, .int .i64 i)])
  (fun E => match lk E 2 with | .int _ i => (3 - i).toNat | _ => 0) ⟨_, _, .inl ⟨rfl, rfl⟩, by simp⟩ ?_
 rintro _ ⟨w, i, hw, rfl⟩
 rcases hw with ⟨rfl, rfl⟩ | ⟨rfl, rfl⟩ | ⟨rfl, rfl⟩ | ⟨rfl, rfl⟩
 ·(refine ev ?_; try exact ⟨⟩)
  repeat (refine ⟨by decide, ?_⟩)
  refine callF_of wz ?_
  (refine ev ?_; try exact ⟨⟩)
  repeat (refine ⟨by decide, ?_⟩)
  refine callF_of wz ?_
  (refine ev ?_; try exact ⟨⟩)
  repeat (refine ⟨by decide, ?_⟩)
  refine callF_of wz ?_
  (refine ev ?_; try exact ⟨⟩)
  repeat (refine ⟨by decide, ?_⟩)
  refine callF_of wo ?_
  (refine ev ?_; try exact ⟨⟩)
  repeat (refine ⟨by decide, ?_⟩)
  exact ⟨_, _, .inr (.inl ⟨rfl, rfl⟩), by simp⟩
 ·(refine ev ?_; try exact ⟨⟩)
  repeat (refine ⟨by decide, ?_⟩)
  refine callF_of wz ?_
  (refine ev ?_; try exact ⟨⟩)
  repeat (refine ⟨by decide, ?_⟩)
  refine callF_of wz ?_
  (refine ev ?_; try exact ⟨⟩)
  repeat (refine ⟨by decide, ?_⟩)
  refine callF_of wz ?_
  (refine ev ?_; try exact ⟨⟩)
  repeat (refine ⟨by decide, ?_⟩)
  refine callF_of wo ?_
  (refine ev ?_; try exact ⟨⟩)
  repeat (refine ⟨by decide, ?_⟩)
  exact ⟨_, _, .inr (.inr (.inl ⟨rfl, rfl⟩)), by simp⟩
 ·(refine ev ?_; try exact ⟨⟩)
  repeat (refine ⟨by decide, ?_⟩)
  refine callF_of wz ?_
  (refine ev ?_; try exact ⟨⟩)
  repeat (refine ⟨by decide, ?_⟩)
  refine callF_of wz ?_
  (refine ev ?_; try exact ⟨⟩)
  repeat (refine ⟨by decide, ?_⟩)
  refine callF_of wz ?_
  (refine ev ?_; try exact ⟨⟩)
  repeat (refine ⟨by decide, ?_⟩)
  refine callF_of wo ?_
  (refine ev ?_; try exact ⟨⟩)
  repeat (refine ⟨by decide, ?_⟩)
  exact ⟨_, _, .inr (.inr (.inr ⟨rfl, rfl⟩)), by simp⟩
 ·(refine ev ?_; try exact ⟨⟩)
  repeat (refine ⟨by decide, ?_⟩)
  refine callF_of wz ?_
  (refine ev ?_; try exact ⟨⟩)
  repeat (refine ⟨by decide, ?_⟩)
  refine callF_of wz ?_
  (refine ev ?_; try exact ⟨⟩)
  repeat (refine ⟨by decide, ?_⟩)
  refine callF_of wz ?_
  (refine ev ?_; try exact ⟨⟩)
  all_goals rfl
end Go.Proofs

/-
 AFFINE: AffineChecks; printed by tools/aff12.py. Own work.
-/
namespace Go.Proofs
open Go Go.Pi Go.RowKit Go.Shelf Go.Ar Go.Mx

/-- the texts of a map, as the law lists them -/
def TM.txl (m : TM) : List (List UInt8) := [m.s.x, m.s.y, m.s.z, m.a.x, m.a.y, m.a.z, m.b.x, m.b.y, m.b.z, m.c.x, m.c.y, m.c.z]
def TM.short (m : TM) : Prop := ∀ s ∈ m.txl, s.length ≤ 30
theorem TM.okl (m : TM) : (∀ s ∈ m.txl, okR s) ↔ m.ok := by
 unfold TM.txl TM.ok T3.ok
 simp only [List.forall_mem_cons, List.not_mem_nil, false_implies, implies_true, and_true]
 exact ⟨fun ⟨a, b, c, d, e, f, g, h, i, j, k, l⟩ => ⟨⟨d, e, f⟩, ⟨g, h, i⟩, ⟨j, k, l⟩, ⟨a, b, c⟩⟩, fun ⟨⟨d, e, f⟩, ⟨g, h, i⟩, ⟨j, k, l⟩, ⟨a, b, c⟩⟩ => ⟨a, b, c, d, e, f, g, h, i, j, k, l⟩⟩
theorem TM.short_sz {m : TM} (h : m.short) : m.sz 1000000 := by
 unfold TM.short TM.txl at h
 simp only [List.forall_mem_cons, List.not_mem_nil, false_implies, implies_true, and_true] at h
 obtain ⟨a, b, c, d, e, f, g, h, i, j, k, l⟩ := h
 exact ⟨⟨by omega, by omega, by omega⟩, ⟨by omega, by omega, by omega⟩, ⟨by omega, by omega, by omega⟩, ⟨by omega, by omega, by omega⟩⟩
theorem Tryz.mlong (m : TM) : Con Tryz.prog Tryz.L 25 [.sl 12 m.all] (.bool (dB (¬m.short))) := Tryz.klong m.txl (by simp [TM.txl])
theorem Tryz.mwrong (m : TM) (h : m.short) : Con Tryz.prog Tryz.L 29 [.sl 12 m.all] (.bool (dB (¬m.ok))) := by
 have := Tryz.kwrong m.txl (by simp [TM.txl]) (fun s hs => by have := h s hs; omega)
 rw [show (∀ s ∈ m.txl, okR s) = m.ok from propext m.okl] at this
 exact this
theorem id_cb : (M3.mk G3.one V3.zero).CB 2 12 := by
 have z : CB 2 12 0 := cb20.mono (by decide)
 have o : CB 2 12 1 := cb21.mono (by decide)
 exact ⟨⟨o, z, z⟩, ⟨z, o, z⟩, ⟨z, z, o⟩, ⟨z, z, z⟩⟩
set_option maxRecDepth 100000 in
set_option maxHeartbeats 16000000 in
theorem Tryz.lchecks8 (m n : TM) : Con Tryz.prog Tryz.L 12 [.agg m.L, .agg n.L] (.bool true) := by
 have kn := Tryz.lknown
 have am := Tryz.kall m
 have an := Tryz.kall n
 have lm := Tryz.mlong m
 have ln := Tryz.mlong n
 by_cases sm : m.short
 case neg =>
  rw [dB_iff.2 sm] at lm
  refine rule12 Tryz.hL rfl rfl rfl ?_
  simp only [TM.L, T3.L, TM.all, List.cons_append, List.nil_append, pc12, rs12, oU, oC, evX, evY, evZ, forall_const, implies_true, initE, stepF, D.clean, mvF, moF, tkF, shF, ariF, ciF, catF, scF, ebF, eqF, eqOk, eqPr, enF, notF, ngF, cvF, csF, csbF, lenF, lenSF, ixF, iaF, PX.slot, iaAF, faF, ldF, D.mem, stF, bxF, mkSF, boundF, fldF, ixAF, mmF2, D.plain, D.isPure, optAll, D.dull, callVF, splice, D.cells, D.one, sets, resT, D.flat, D.flat0, D.simple, Nat.reduceBNe, Nat.reduceLT, reduceIte, Nat.reduceEqDiff, Nat.reduceAdd, Nat.reduceMul, Nat.reduceSub, Nat.reduceLeDiff, Int.reduceToNat, Int.reduceLT, Int.reduceLE, Int.reduceEq, Int.reduceNeg, Int.reduceSub, Int.reduceAdd, Int.reduceMul, stG_own] at kn am lm ⊢
  repeat (refine ⟨by decide, ?_⟩)
  refine callF_of kn ?_
  (refine ev ?_; try exact ⟨⟩)
  repeat (refine ⟨by decide, ?_⟩)
  refine callF_of am ?_
  (refine ev ?_; try exact ⟨⟩)
  repeat (refine ⟨by decide, ?_⟩)
  refine callF_of lm ?_
  (refine ev ?_; try exact ⟨⟩)
  repeat (refine ⟨by decide, ?_⟩)
  refine callF_of kn ?_
  (refine ev ?_; try exact ⟨⟩)
 rw [dB_not.2 (fun h => h sm)] at lm
 by_cases sn : n.short
 case neg =>
  rw [dB_iff.2 sn] at ln
  refine rule12 Tryz.hL rfl rfl rfl ?_
  simp only [TM.L, T3.L, TM.all, List.cons_append, List.nil_append, pc12, rs12, oU, oC, evX, evY, evZ, forall_const, implies_true, initE, stepF, D.clean, mvF, moF, tkF, shF, ariF, ciF, catF, scF, ebF, eqF, eqOk, eqPr, enF, notF, ngF, cvF, csF, csbF, lenF, lenSF, ixF, iaF, PX.slot, iaAF, faF, ldF, D.mem, stF, bxF, mkSF, boundF, fldF, ixAF, mmF2, D.plain, D.isPure, optAll, D.dull, callVF, splice, D.cells, D.one, sets, resT, D.flat, D.flat0, D.simple, Nat.reduceBNe, Nat.reduceLT, reduceIte, Nat.reduceEqDiff, Nat.reduceAdd, Nat.reduceMul, Nat.reduceSub, Nat.reduceLeDiff, Int.reduceToNat, Int.reduceLT, Int.reduceLE, Int.reduceEq, Int.reduceNeg, Int.reduceSub, Int.reduceAdd, Int.reduceMul, stG_own] at kn am an lm ln ⊢
  repeat (refine ⟨by decide, ?_⟩)
  refine callF_of kn ?_
  (refine ev ?_; try exact ⟨⟩)
  repeat (refine ⟨by decide, ?_⟩)
  refine callF_of am ?_
  (refine ev ?_; try exact ⟨⟩)
  repeat (refine ⟨by decide, ?_⟩)
  refine callF_of lm ?_
  (refine ev ?_; try exact ⟨⟩)
  repeat (refine ⟨by decide, ?_⟩)
  refine callF_of an ?_
  (refine ev ?_; try exact ⟨⟩)
  repeat (refine ⟨by decide, ?_⟩)
  refine callF_of ln ?_
  (refine ev ?_; try exact ⟨⟩)
  repeat (refine ⟨by decide, ?_⟩)
  refine callF_of kn ?_
  (refine ev ?_; try exact ⟨⟩)
 rw [dB_not.2 (fun h => h sn)] at ln
 have wr := Tryz.mwrong m sm
 have ck := Tryz.acheck m (TM.short_sz sm)
 have eq := Tryz.aEqual m n
 have id := Tryz.aidentity
 have wi := Tryz.widentity
 have wa := Tryz.waffine (M3.mk G3.one V3.zero) ⟨v3sf id_cb.1, v3sf id_cb.2.1, v3sf id_cb.2.2.1, v3sf id_cb.2.2.2⟩
 have hsz := (TM.short_sz sm)
 have idr := M3.rd_mono id_cb.rd (show 10 ≤ 200 by decide)
 generalize M3.mk G3.one V3.zero = J at *
 by_cases hm : m.ok
 ·rw [dB_not.2 (fun h => h hm)] at wr
  rw [chk_t hm] at ck
  refine rule12 Tryz.hL rfl rfl rfl ?_
  simp only [fD, M3.F, V3.F, M3.L, V3.L, TM.L, T3.L, TM.all, TM.same, List.cons_append, List.nil_append, pc12, rs12, oU, oC, evX, evY, evZ, forall_const, implies_true, initE, stepF, D.clean, mvF, moF, tkF, shF, ariF, ciF, catF, scF, ebF, eqF, eqOk, eqPr, enF, notF, ngF, cvF, csF, csbF, lenF, lenSF, ixF, iaF, PX.slot, iaAF, faF, ldF, D.mem, stF, bxF, mkSF, boundF, fldF, ixAF, mmF2, D.plain, D.isPure, optAll, D.dull, callVF, splice, D.cells, D.one, sets, resT, D.flat, D.flat0, D.simple, Nat.reduceBNe, Nat.reduceLT, reduceIte, Nat.reduceEqDiff, Nat.reduceAdd, Nat.reduceMul, Nat.reduceSub, Nat.reduceLeDiff, Int.reduceToNat, Int.reduceLT, Int.reduceLE, Int.reduceEq, Int.reduceNeg, Int.reduceSub, Int.reduceAdd, Int.reduceMul, stG_own] at kn am an lm ln wr ck eq id wi wa ⊢
  repeat (refine ⟨by decide, ?_⟩)
  refine callF_of kn ?_
  (refine ev ?_; try exact ⟨⟩)
  repeat (refine ⟨by decide, ?_⟩)
  refine callF_of am ?_
  (refine ev ?_; try exact ⟨⟩)
  repeat (refine ⟨by decide, ?_⟩)
  refine callF_of lm ?_
  (refine ev ?_; try exact ⟨⟩)
  repeat (refine ⟨by decide, ?_⟩)
  refine callF_of an ?_
  (refine ev ?_; try exact ⟨⟩)
  repeat (refine ⟨by decide, ?_⟩)
  refine callF_of ln ?_
  (refine ev ?_; try exact ⟨⟩)
  repeat (refine ⟨by decide, ?_⟩)
  refine callF_of am ?_
  (refine ev ?_; try exact ⟨⟩)
  repeat (refine ⟨by decide, ?_⟩)
  refine callF_of wr ?_
  (refine ev ?_; try exact ⟨⟩)
  repeat (refine ⟨by decide, ?_⟩)
  refine callF_of ck ?_
  (refine ev ?_; try exact ⟨⟩)
  repeat (refine ⟨by decide, ?_⟩)
  refine callF_of eq ?_
  (refine ev ?_; try exact ⟨⟩)
  simp only [beq_self_eq_true, Bool.not_true, evX, evY, evZ, forall_const, implies_true, initE, stepF, D.clean, mvF, moF, tkF, shF, ariF, ciF, catF, scF, ebF, eqF, eqOk, eqPr, enF, notF, ngF, cvF, csF, csbF, lenF, lenSF, ixF, iaF, PX.slot, iaAF, faF, ldF, D.mem, stF, bxF, mkSF, boundF, fldF, ixAF, mmF2, D.plain, D.isPure, optAll, D.dull, callVF, splice, D.cells, D.one, sets, resT, D.flat, D.flat0, D.simple, Nat.reduceBNe, Nat.reduceLT, reduceIte, Nat.reduceEqDiff, Nat.reduceAdd, Nat.reduceMul, Nat.reduceSub, Nat.reduceLeDiff, Int.reduceToNat, Int.reduceLT, Int.reduceLE, Int.reduceEq, Int.reduceNeg, Int.reduceSub, Int.reduceAdd, Int.reduceMul, stG_own]
  repeat (refine ⟨by decide, ?_⟩)
  refine callF_of id ?_
  (refine ev ?_; try exact ⟨⟩)
  repeat (refine ⟨by decide, ?_⟩)
  refine callF_of wi ?_
  (refine ev ?_; try exact ⟨⟩)
  repeat (refine ⟨by decide, ?_⟩)
  refine callF_of wa ?_
  (refine ev ?_; try exact ⟨⟩)
 ·rw [dB_iff.2 hm] at wr
  rw [chk_f hm] at ck
  have c1 : Con Tryz.prog Tryz.L 44 [.agg m.L, .agg J.L] _ := Tryz.eCompose1 m hsz hm J.t
  have c2 := Tryz.eCompose2 J idr m hsz hm
  have iv := Tryz.eInverse m hsz hm
  have dt := Tryz.eDet m hsz hm
  have is := Tryz.eIso m hsz hm
  have v0 := Tryz.lvecN 0 0 0 ⟨0, 0, 0⟩ (by decide) (by decide) (by decide) (by decide +kernel) (by decide +kernel) (by decide +kernel)
  have ap := Tryz.eApply m hsz hm ⟨rt 0, rt 0, rt 0⟩
  have di := Tryz.eDirect m hsz hm ⟨rt 0, rt 0, rt 0⟩
  have pu := Tryz.ePull m hsz hm ⟨rt 0, rt 0, rt 0⟩ [48]
  have ps := Tryz.ePush m hsz hm ⟨rt 0, rt 0, rt 0⟩ [48]
  have fx := Tryz.eFixed m hsz hm
  refine rule12 Tryz.hL rfl rfl rfl ?_
  simp only [fD, M3.F, V3.F, M3.L, V3.L, TM.L, T3.L, TM.all, TM.same, List.cons_append, List.nil_append, pc12, rs12, oU, oC, evX, evY, evZ, forall_const, implies_true, initE, stepF, D.clean, mvF, moF, tkF, shF, ariF, ciF, catF, scF, ebF, eqF, eqOk, eqPr, enF, notF, ngF, cvF, csF, csbF, lenF, lenSF, ixF, iaF, PX.slot, iaAF, faF, ldF, D.mem, stF, bxF, mkSF, boundF, fldF, ixAF, mmF2, D.plain, D.isPure, optAll, D.dull, callVF, splice, D.cells, D.one, sets, resT, D.flat, D.flat0, D.simple, Nat.reduceBNe, Nat.reduceLT, reduceIte, Nat.reduceEqDiff, Nat.reduceAdd, Nat.reduceMul, Nat.reduceSub, Nat.reduceLeDiff, Int.reduceToNat, Int.reduceLT, Int.reduceLE, Int.reduceEq, Int.reduceNeg, Int.reduceSub, Int.reduceAdd, Int.reduceMul, stG_own] at kn am an lm ln wr ck eq id wi wa c1 c2 iv dt is v0 ap di pu ps fx ⊢
  repeat (refine ⟨by decide, ?_⟩)
  refine callF_of kn ?_
  (refine ev ?_; try exact ⟨⟩)
  repeat (refine ⟨by decide, ?_⟩)
  refine callF_of am ?_
  (refine ev ?_; try exact ⟨⟩)
  repeat (refine ⟨by decide, ?_⟩)
  refine callF_of lm ?_
  (refine ev ?_; try exact ⟨⟩)
  repeat (refine ⟨by decide, ?_⟩)
  refine callF_of an ?_
  (refine ev ?_; try exact ⟨⟩)
  repeat (refine ⟨by decide, ?_⟩)
  refine callF_of ln ?_
  (refine ev ?_; try exact ⟨⟩)
  repeat (refine ⟨by decide, ?_⟩)
  refine callF_of am ?_
  (refine ev ?_; try exact ⟨⟩)
  repeat (refine ⟨by decide, ?_⟩)
  refine callF_of wr ?_
  (refine ev ?_; try exact ⟨⟩)
  repeat (refine ⟨by decide, ?_⟩)
  refine callF_of ck ?_
  (refine ev ?_; try exact ⟨⟩)
  repeat (refine ⟨by decide, ?_⟩)
  refine callF_of eq ?_
  (refine ev ?_; try exact ⟨⟩)
  simp only [beq_self_eq_true, Bool.not_true, evX, evY, evZ, forall_const, implies_true, initE, stepF, D.clean, mvF, moF, tkF, shF, ariF, ciF, catF, scF, ebF, eqF, eqOk, eqPr, enF, notF, ngF, cvF, csF, csbF, lenF, lenSF, ixF, iaF, PX.slot, iaAF, faF, ldF, D.mem, stF, bxF, mkSF, boundF, fldF, ixAF, mmF2, D.plain, D.isPure, optAll, D.dull, callVF, splice, D.cells, D.one, sets, resT, D.flat, D.flat0, D.simple, Nat.reduceBNe, Nat.reduceLT, reduceIte, Nat.reduceEqDiff, Nat.reduceAdd, Nat.reduceMul, Nat.reduceSub, Nat.reduceLeDiff, Int.reduceToNat, Int.reduceLT, Int.reduceLE, Int.reduceEq, Int.reduceNeg, Int.reduceSub, Int.reduceAdd, Int.reduceMul, stG_own]
  repeat (refine ⟨by decide, ?_⟩)
  refine callF_of id ?_
  (refine ev ?_; try exact ⟨⟩)
  repeat (refine ⟨by decide, ?_⟩)
  refine callF_of wi ?_
  (refine ev ?_; try exact ⟨⟩)
  repeat (refine ⟨by decide, ?_⟩)
  refine callF_of wa ?_
  (refine ev ?_; try exact ⟨⟩)
  repeat (refine ⟨by decide, ?_⟩)
  refine callF_of id ?_
  (refine ev ?_; try exact ⟨⟩)
  repeat (refine ⟨by decide, ?_⟩)
  refine callF_of c1 ?_
  (refine ev ?_; try exact ⟨⟩)
  repeat (refine ⟨by decide, ?_⟩)
  refine callF_of c2 ?_
  (refine ev ?_; try exact ⟨⟩)
  repeat (refine ⟨by decide, ?_⟩)
  refine callF_of iv ?_
  (refine ev ?_; try exact ⟨⟩)
  repeat (refine ⟨by decide, ?_⟩)
  refine callF_of dt ?_
  (refine ev ?_; try exact ⟨⟩)
  repeat (refine ⟨by decide, ?_⟩)
  refine callF_of is ?_
  (refine ev ?_; try exact ⟨⟩)
  repeat (refine ⟨by decide, ?_⟩)
  refine callF_of v0 ?_
  (refine ev ?_; try exact ⟨⟩)
  repeat (refine ⟨by decide, ?_⟩)
  refine callF_of ap ?_
  (refine ev ?_; try exact ⟨⟩)
  repeat (refine ⟨by decide, ?_⟩)
  refine callF_of v0 ?_
  (refine ev ?_; try exact ⟨⟩)
  repeat (refine ⟨by decide, ?_⟩)
  refine callF_of di ?_
  (refine ev ?_; try exact ⟨⟩)
  repeat (refine ⟨by decide, ?_⟩)
  refine callF_of v0 ?_
  (refine ev ?_; try exact ⟨⟩)
  repeat (refine ⟨by decide, ?_⟩)
  refine callF_of pu ?_
  (refine ev ?_; try exact ⟨⟩)
  repeat (refine ⟨by decide, ?_⟩)
  refine callF_of v0 ?_
  (refine ev ?_; try exact ⟨⟩)
  repeat (refine ⟨by decide, ?_⟩)
  refine callF_of ps ?_
  (refine ev ?_; try exact ⟨⟩)
  repeat (refine ⟨by decide, ?_⟩)
  refine callF_of fx ?_
  (refine ev ?_; try exact ⟨⟩)
  exact fun h => h rfl
end Go.Proofs

/-
 AFFINE: AffineMakes; printed by tools/aff13.py. Own work.
-/
namespace Go.Proofs
open Go Go.Pi Go.RowKit Go.Shelf Go.Ar Go.Mx

def T3.txl (v : T3) : List (List UInt8) := [v.x, v.y, v.z]
def T3.short (v : T3) : Prop := ∀ s ∈ v.txl, s.length ≤ 30
theorem T3.short_iff (v : T3) : v.short ↔ v.sz 30 := by
 unfold T3.short T3.txl T3.sz
 simp only [List.forall_mem_cons, List.not_mem_nil, false_implies, implies_true, and_true]
theorem T3.okl (v : T3) : (∀ s ∈ v.txl, okR s) ↔ v.ok := by
 unfold T3.txl T3.ok
 simp only [List.forall_mem_cons, List.not_mem_nil, false_implies, implies_true, and_true]
theorem T3.sz_of {v : T3} (h : v.short) : v.sz 1000000 := by
 obtain ⟨h1, h2, h3⟩ := v.short_iff.1 h
 exact ⟨by omega, by omega, by omega⟩
theorem Tryz.tlong (v : T3) : Con Tryz.prog Tryz.L 25 [.sl 3 v.L] (.bool (dB (¬v.short))) := Tryz.klong v.txl (by simp [T3.txl])
theorem Tryz.twrong (v : T3) (h : v.short) : Con Tryz.prog Tryz.L 29 [.sl 3 v.L] (.bool (dB (¬v.ok))) := by
 have := Tryz.kwrong v.txl (by simp [T3.txl]) (fun s hs => by have := h s hs; omega)
 rw [show (∀ s ∈ v.txl, okR s) = v.ok from propext v.okl] at this
 exact this
/-- right numbers of at most 30 bytes -/
theorem T3.val {v : T3} (h : v.ok) (hs : v.short) : ∃ u : V3, v = u.t ∧ u.rd 30 := by
 obtain ⟨⟨p, hp, _⟩, ⟨q, hq, _⟩, ⟨r, hr, _⟩⟩ := h
 obtain ⟨h1, h2, h3⟩ := v.short_iff.1 hs
 rw [hp] at h1; rw [hq] at h2; rw [hr] at h3
 refine ⟨⟨p, q, r⟩, ?_, len_rd (by decide) h1, len_rd (by decide) h2, len_rd (by decide) h3⟩
 cases v; simp only at hp hq hr; subst hp; subst hq; subst hr; rfl
theorem Tryz.afirst2b (u v : T3) (h : u.sz 1000000) (h' : v.sz 1000000) (hb : ¬(u.ok ∧ v.ok)) : Con Tryz.prog Tryz.L 74 [.sl 2 [.str u.x, .str u.y, .str u.z, .str v.x, .str v.y, .str v.z]] (.int .i64 2) := by
 have fi := Tryz.tfirst [u, v] (by simp) (all2.2 ⟨h, h'⟩)
 rw [chk_f (fun h => hb (all2.1 h))] at fi
 exact fi
set_option maxHeartbeats 2000000 in
theorem Tryz.eTranslation (u : T3) (h : u.sz 1000000) (hb : ¬u.ok) : Con Tryz.prog Tryz.L 27 [.agg u.L] (.tup [.agg [.str [], .str [], .str [], .str [], .str [], .str [], .str [], .str [], .str [], .str [], .str [], .str []], .int .i64 2]) := by
 have fi := Tryz.afirst1b u h hb
 refine rule27 Tryz.hL rfl rfl rfl ?_
 simp only [T3.L, V3.L, M3.L, G3.L, pc27, rs27, oU, oC, evX, evY, evZ, forall_const, implies_true, initE, stepF, D.clean, mvF, moF, tkF, shF, ariF, ciF, catF, scF, ebF, eqF, eqOk, eqPr, enF, notF, ngF, cvF, csF, csbF, lenF, lenSF, ixF, iaF, PX.slot, iaAF, faF, ldF, D.mem, stF, bxF, mkSF, boundF, fldF, ixAF, mmF2, D.plain, D.isPure, optAll, D.dull, callVF, splice, D.cells, D.one, sets, resT, D.flat, D.flat0, D.simple, Nat.reduceBNe, Nat.reduceLT, reduceIte, Nat.reduceEqDiff, Nat.reduceAdd, Nat.reduceMul, Nat.reduceSub, Nat.reduceLeDiff, Int.reduceToNat, Int.reduceLT, Int.reduceLE, Int.reduceEq, Int.reduceNeg, Int.reduceSub, Int.reduceAdd, Int.reduceMul, stG_own] at fi ⊢
 repeat (refine ⟨by decide, ?_⟩)
 refine callF_of fi ?_
 (refine ev ?_; try exact ⟨⟩)
 all_goals rfl
set_option maxHeartbeats 2000000 in
theorem Tryz.eShear (u v : T3) (h : u.sz 1000000) (h' : v.sz 1000000) (hb : ¬(u.ok ∧ v.ok)) : Con Tryz.prog Tryz.L 28 [.agg u.L, .agg v.L] (.tup [.agg [.str [], .str [], .str [], .str [], .str [], .str [], .str [], .str [], .str [], .str [], .str [], .str []], .int .i64 2]) := by
 have fi := Tryz.afirst2b u v h h' hb
 refine rule28 Tryz.hL rfl rfl rfl ?_
 simp only [T3.L, V3.L, M3.L, G3.L, pc28, rs28, oU, oC, evX, evY, evZ, forall_const, implies_true, initE, stepF, D.clean, mvF, moF, tkF, shF, ariF, ciF, catF, scF, ebF, eqF, eqOk, eqPr, enF, notF, ngF, cvF, csF, csbF, lenF, lenSF, ixF, iaF, PX.slot, iaAF, faF, ldF, D.mem, stF, bxF, mkSF, boundF, fldF, ixAF, mmF2, D.plain, D.isPure, optAll, D.dull, callVF, splice, D.cells, D.one, sets, resT, D.flat, D.flat0, D.simple, Nat.reduceBNe, Nat.reduceLT, reduceIte, Nat.reduceEqDiff, Nat.reduceAdd, Nat.reduceMul, Nat.reduceSub, Nat.reduceLeDiff, Int.reduceToNat, Int.reduceLT, Int.reduceLE, Int.reduceEq, Int.reduceNeg, Int.reduceSub, Int.reduceAdd, Int.reduceMul, stG_own] at fi ⊢
 repeat (refine ⟨by decide, ?_⟩)
 refine callF_of fi ?_
 (refine ev ?_; try exact ⟨⟩)
 all_goals rfl
/-- the rows of a shear, as the law writes them -/
def shW (n d : V3) : G3 := ⟨⟨d.x * n.x + 1, d.x * n.y, d.x * n.z⟩, ⟨d.y * n.x, d.y * n.y + 1, d.y * n.z⟩, ⟨d.z * n.x, d.z * n.y, d.z * n.z + 1⟩⟩
theorem shG_W (n d : V3) : shG n d = shW n d := by
 have e : ∀ {a b c a' b' c' : V3}, a = a' → b = b' → c = c' → G3.mk a b c = G3.mk a' b' c' := fun h1 h2 h3 => by rw [h1, h2, h3]
 refine e (V3.ext' ?_ ?_ ?_) (V3.ext' ?_ ?_ ?_) (V3.ext' ?_ ?_ ?_)
 ·show (1 : Rat) + n.x * d.x = d.x * n.x + 1; grind
 ·show (0 : Rat) + n.y * d.x = d.x * n.y; grind
 ·show (0 : Rat) + n.z * d.x = d.x * n.z; grind
 ·show (0 : Rat) + n.x * d.y = d.y * n.x; grind
 ·show (1 : Rat) + n.y * d.y = d.y * n.y + 1; grind
 ·show (0 : Rat) + n.z * d.y = d.y * n.z; grind
 ·show (0 : Rat) + n.x * d.z = d.z * n.x; grind
 ·show (0 : Rat) + n.y * d.z = d.z * n.y; grind
 ·show (1 : Rat) + n.z * d.z = d.z * n.z + 1; grind
set_option maxRecDepth 100000 in
set_option maxHeartbeats 16000000 in
theorem Tryz.lmakes (u v : T3) : Con Tryz.prog Tryz.L 5 [.agg u.L, .agg v.L] (.bool true) := by
 have kn := Tryz.lknown
 have nu := Tryz.knumbers u; have nv := Tryz.knumbers v
 have lu := Tryz.tlong u; have lv := Tryz.tlong v
 by_cases su : u.short
 case neg =>
  rw [dB_iff.2 su] at lu
  refine rule5 Tryz.hL rfl rfl rfl ?_
  simp only [T3.L, pc5, rs5, oU, oC, evX, evY, evZ, forall_const, implies_true, initE, stepF, D.clean, mvF, moF, tkF, shF, ariF, ciF, catF, scF, ebF, eqF, eqOk, eqPr, enF, notF, ngF, cvF, csF, csbF, lenF, lenSF, ixF, iaF, PX.slot, iaAF, faF, ldF, D.mem, stF, bxF, mkSF, boundF, fldF, ixAF, mmF2, D.plain, D.isPure, optAll, D.dull, callVF, splice, D.cells, D.one, sets, resT, D.flat, D.flat0, D.simple, Nat.reduceBNe, Nat.reduceLT, reduceIte, Nat.reduceEqDiff, Nat.reduceAdd, Nat.reduceMul, Nat.reduceSub, Nat.reduceLeDiff, Int.reduceToNat, Int.reduceLT, Int.reduceLE, Int.reduceEq, Int.reduceNeg, Int.reduceSub, Int.reduceAdd, Int.reduceMul, stG_own] at kn nu lu ⊢
  repeat (refine ⟨by decide, ?_⟩)
  refine callF_of kn ?_
  (refine ev ?_; try exact ⟨⟩)
  repeat (refine ⟨by decide, ?_⟩)
  refine callF_of nu ?_
  (refine ev ?_; try exact ⟨⟩)
  repeat (refine ⟨by decide, ?_⟩)
  refine callF_of lu ?_
  (refine ev ?_; try exact ⟨⟩)
  repeat (refine ⟨by decide, ?_⟩)
  refine callF_of kn ?_
  (refine ev ?_; try exact ⟨⟩)
 rw [dB_not.2 (fun h => h su)] at lu
 by_cases sv : v.short
 case neg =>
  rw [dB_iff.2 sv] at lv
  refine rule5 Tryz.hL rfl rfl rfl ?_
  simp only [T3.L, pc5, rs5, oU, oC, evX, evY, evZ, forall_const, implies_true, initE, stepF, D.clean, mvF, moF, tkF, shF, ariF, ciF, catF, scF, ebF, eqF, eqOk, eqPr, enF, notF, ngF, cvF, csF, csbF, lenF, lenSF, ixF, iaF, PX.slot, iaAF, faF, ldF, D.mem, stF, bxF, mkSF, boundF, fldF, ixAF, mmF2, D.plain, D.isPure, optAll, D.dull, callVF, splice, D.cells, D.one, sets, resT, D.flat, D.flat0, D.simple, Nat.reduceBNe, Nat.reduceLT, reduceIte, Nat.reduceEqDiff, Nat.reduceAdd, Nat.reduceMul, Nat.reduceSub, Nat.reduceLeDiff, Int.reduceToNat, Int.reduceLT, Int.reduceLE, Int.reduceEq, Int.reduceNeg, Int.reduceSub, Int.reduceAdd, Int.reduceMul, stG_own] at kn nu nv lu lv ⊢
  repeat (refine ⟨by decide, ?_⟩)
  refine callF_of kn ?_
  (refine ev ?_; try exact ⟨⟩)
  repeat (refine ⟨by decide, ?_⟩)
  refine callF_of nu ?_
  (refine ev ?_; try exact ⟨⟩)
  repeat (refine ⟨by decide, ?_⟩)
  refine callF_of lu ?_
  (refine ev ?_; try exact ⟨⟩)
  repeat (refine ⟨by decide, ?_⟩)
  refine callF_of nv ?_
  (refine ev ?_; try exact ⟨⟩)
  repeat (refine ⟨by decide, ?_⟩)
  refine callF_of lv ?_
  (refine ev ?_; try exact ⟨⟩)
  repeat (refine ⟨by decide, ?_⟩)
  refine callF_of kn ?_
  (refine ev ?_; try exact ⟨⟩)
 rw [dB_not.2 (fun h => h sv)] at lv
 have wu := Tryz.twrong u su
 have wv := Tryz.twrong v sv
 have id := Tryz.aidentity
 by_cases ou : u.ok
 case neg =>
  rw [dB_iff.2 ou] at wu
  have tr := Tryz.eTranslation u (T3.sz_of su) ou
  have sh := Tryz.eShear u v (T3.sz_of su) (T3.sz_of sv) (fun h => ou h.1)
  refine rule5 Tryz.hL rfl rfl rfl ?_
  simp only [T3.L, pc5, rs5, oU, oC, evX, evY, evZ, forall_const, implies_true, initE, stepF, D.clean, mvF, moF, tkF, shF, ariF, ciF, catF, scF, ebF, eqF, eqOk, eqPr, enF, notF, ngF, cvF, csF, csbF, lenF, lenSF, ixF, iaF, PX.slot, iaAF, faF, ldF, D.mem, stF, bxF, mkSF, boundF, fldF, ixAF, mmF2, D.plain, D.isPure, optAll, D.dull, callVF, splice, D.cells, D.one, sets, resT, D.flat, D.flat0, D.simple, Nat.reduceBNe, Nat.reduceLT, reduceIte, Nat.reduceEqDiff, Nat.reduceAdd, Nat.reduceMul, Nat.reduceSub, Nat.reduceLeDiff, Int.reduceToNat, Int.reduceLT, Int.reduceLE, Int.reduceEq, Int.reduceNeg, Int.reduceSub, Int.reduceAdd, Int.reduceMul, stG_own] at kn nu nv lu lv wu tr sh ⊢
  repeat (refine ⟨by decide, ?_⟩)
  refine callF_of kn ?_
  (refine ev ?_; try exact ⟨⟩)
  repeat (refine ⟨by decide, ?_⟩)
  refine callF_of nu ?_
  (refine ev ?_; try exact ⟨⟩)
  repeat (refine ⟨by decide, ?_⟩)
  refine callF_of lu ?_
  (refine ev ?_; try exact ⟨⟩)
  repeat (refine ⟨by decide, ?_⟩)
  refine callF_of nv ?_
  (refine ev ?_; try exact ⟨⟩)
  repeat (refine ⟨by decide, ?_⟩)
  refine callF_of lv ?_
  (refine ev ?_; try exact ⟨⟩)
  repeat (refine ⟨by decide, ?_⟩)
  refine callF_of tr ?_
  (refine ev ?_; try exact ⟨⟩)
  repeat (refine ⟨by decide, ?_⟩)
  refine callF_of sh ?_
  (refine ev ?_; try exact ⟨⟩)
  repeat (refine ⟨by decide, ?_⟩)
  refine callF_of nu ?_
  (refine ev ?_; try exact ⟨⟩)
  repeat (refine ⟨by decide, ?_⟩)
  refine callF_of wu ?_
  (refine ev ?_; try exact ⟨⟩)
 rw [dB_not.2 (fun h => h ou)] at wu
 obtain ⟨n, rfl, hn⟩ := T3.val ou su
 have tr := Tryz.aTranslation n (V3.rd_mono hn (by decide))
 have hn9 := V3.rd_mono hn (show 30 ≤ 90 by decide)
 by_cases ov : v.ok
 case neg =>
  rw [dB_iff.2 ov] at wv
  have sh := Tryz.eShear n.t v (T3.sz_of su) (T3.sz_of sv) (fun h => ov h.2)
  generalize G3.one = I at *
  generalize V3.zero = O at *
  refine rule5 Tryz.hL rfl rfl rfl ?_
  simp only [T3.L, V3.t, M3.L, V3.L, pc5, rs5, oU, oC, evX, evY, evZ, forall_const, implies_true, initE, stepF, D.clean, mvF, moF, tkF, shF, ariF, ciF, catF, scF, ebF, eqF, eqOk, eqPr, enF, notF, ngF, cvF, csF, csbF, lenF, lenSF, ixF, iaF, PX.slot, iaAF, faF, ldF, D.mem, stF, bxF, mkSF, boundF, fldF, ixAF, mmF2, D.plain, D.isPure, optAll, D.dull, callVF, splice, D.cells, D.one, sets, resT, D.flat, D.flat0, D.simple, Nat.reduceBNe, Nat.reduceLT, reduceIte, Nat.reduceEqDiff, Nat.reduceAdd, Nat.reduceMul, Nat.reduceSub, Nat.reduceLeDiff, Int.reduceToNat, Int.reduceLT, Int.reduceLE, Int.reduceEq, Int.reduceNeg, Int.reduceSub, Int.reduceAdd, Int.reduceMul, stG_own] at kn nu nv lu lv wu wv tr sh id ⊢
  repeat (refine ⟨by decide, ?_⟩)
  refine callF_of kn ?_
  (refine ev ?_; try exact ⟨⟩)
  repeat (refine ⟨by decide, ?_⟩)
  refine callF_of nu ?_
  (refine ev ?_; try exact ⟨⟩)
  repeat (refine ⟨by decide, ?_⟩)
  refine callF_of lu ?_
  (refine ev ?_; try exact ⟨⟩)
  repeat (refine ⟨by decide, ?_⟩)
  refine callF_of nv ?_
  (refine ev ?_; try exact ⟨⟩)
  repeat (refine ⟨by decide, ?_⟩)
  refine callF_of lv ?_
  (refine ev ?_; try exact ⟨⟩)
  repeat (refine ⟨by decide, ?_⟩)
  refine callF_of tr ?_
  (refine ev ?_; try exact ⟨⟩)
  repeat (refine ⟨by decide, ?_⟩)
  refine callF_of sh ?_
  (refine ev ?_; try exact ⟨⟩)
  repeat (refine ⟨by decide, ?_⟩)
  refine callF_of nu ?_
  (refine ev ?_; try exact ⟨⟩)
  repeat (refine ⟨by decide, ?_⟩)
  refine callF_of wu ?_
  (refine ev ?_; try exact ⟨⟩)
  repeat (refine ⟨by decide, ?_⟩)
  refine callF_of id ?_
  (refine ev ?_; try exact ⟨⟩)
  repeat (refine ⟨by decide, ?_⟩)
  refine callF_of nv ?_
  (refine ev ?_; try exact ⟨⟩)
  repeat (refine ⟨by decide, ?_⟩)
  refine callF_of wv ?_
  (refine ev ?_; try exact ⟨⟩)
 rw [dB_not.2 (fun h => h ov)] at wv
 obtain ⟨d, rfl, hd⟩ := T3.val ov sv
 have hd9 := V3.rd_mono hd (show 30 ≤ 90 by decide)
 have p0 := Tryz.rmul n.x d.x (by have := hn.1; omega) (by have := hd.1; omega)
 have p1 := Tryz.rmul n.y d.y (by have := hn.2.1; omega) (by have := hd.2.1; omega)
 have p2 := Tryz.rmul n.z d.z (by have := hn.2.2; omega) (by have := hd.2.2; omega)
 have s0 := rd_mul hn.1 hd.1
 have s1 := rd_mul hn.2.1 hd.2.1
 have s2 := rd_mul hn.2.2 hd.2.2
 have su3 : Con Tryz.prog Tryz.L 31 _ (.str (rt (n.dot d))) := Tryz.rsum3 (n.x * d.x) (n.y * d.y) (n.z * d.z) (by omega) (by omega) (by omega) (by have := rd_add s0 s1; omega)
 have idw := id
 by_cases hz : n.dot d = 0
 case neg =>
  have sh := Tryz.aShear7 n d hn9 hd9 hz
  generalize G3.one = I at *
  generalize V3.zero = O at *
  refine rule5 Tryz.hL rfl rfl rfl ?_
  simp only [T3.L, V3.t, M3.L, V3.L, rt_zero, pc5, rs5, oU, oC, evX, evY, evZ, forall_const, implies_true, initE, stepF, D.clean, mvF, moF, tkF, shF, ariF, ciF, catF, scF, ebF, eqF, eqOk, eqPr, enF, notF, ngF, cvF, csF, csbF, lenF, lenSF, ixF, iaF, PX.slot, iaAF, faF, ldF, D.mem, stF, bxF, mkSF, boundF, fldF, ixAF, mmF2, D.plain, D.isPure, optAll, D.dull, callVF, splice, D.cells, D.one, sets, resT, D.flat, D.flat0, D.simple, Nat.reduceBNe, Nat.reduceLT, reduceIte, Nat.reduceEqDiff, Nat.reduceAdd, Nat.reduceMul, Nat.reduceSub, Nat.reduceLeDiff, Int.reduceToNat, Int.reduceLT, Int.reduceLE, Int.reduceEq, Int.reduceNeg, Int.reduceSub, Int.reduceAdd, Int.reduceMul, stG_own] at kn nu nv lu lv wu wv tr sh id p0 p1 p2 su3 ⊢
  repeat (refine ⟨by decide, ?_⟩)
  refine callF_of kn ?_
  (refine ev ?_; try exact ⟨⟩)
  repeat (refine ⟨by decide, ?_⟩)
  refine callF_of nu ?_
  (refine ev ?_; try exact ⟨⟩)
  repeat (refine ⟨by decide, ?_⟩)
  refine callF_of lu ?_
  (refine ev ?_; try exact ⟨⟩)
  repeat (refine ⟨by decide, ?_⟩)
  refine callF_of nv ?_
  (refine ev ?_; try exact ⟨⟩)
  repeat (refine ⟨by decide, ?_⟩)
  refine callF_of lv ?_
  (refine ev ?_; try exact ⟨⟩)
  repeat (refine ⟨by decide, ?_⟩)
  refine callF_of tr ?_
  (refine ev ?_; try exact ⟨⟩)
  repeat (refine ⟨by decide, ?_⟩)
  refine callF_of sh ?_
  (refine ev ?_; try exact ⟨⟩)
  repeat (refine ⟨by decide, ?_⟩)
  refine callF_of nu ?_
  (refine ev ?_; try exact ⟨⟩)
  repeat (refine ⟨by decide, ?_⟩)
  refine callF_of wu ?_
  (refine ev ?_; try exact ⟨⟩)
  repeat (refine ⟨by decide, ?_⟩)
  refine callF_of id ?_
  (refine ev ?_; try exact ⟨⟩)
  repeat (refine ⟨by decide, ?_⟩)
  refine callF_of nv ?_
  (refine ev ?_; try exact ⟨⟩)
  repeat (refine ⟨by decide, ?_⟩)
  refine callF_of wv ?_
  (refine ev ?_; try exact ⟨⟩)
  repeat (refine ⟨by decide, ?_⟩)
  refine callF_of p0 ?_
  (refine ev ?_; try exact ⟨⟩)
  repeat (refine ⟨by decide, ?_⟩)
  refine callF_of p1 ?_
  (refine ev ?_; try exact ⟨⟩)
  repeat (refine ⟨by decide, ?_⟩)
  refine callF_of p2 ?_
  (refine ev ?_; try exact ⟨⟩)
  repeat (refine ⟨by decide, ?_⟩)
  refine callF_of su3 ?_
  (refine ev ?_; try exact ⟨⟩)
  exact fun h => absurd (rt_zero.1 (Classical.not_not.1 h)) hz
 have sh := Tryz.aShear n d hn9 hd9 hz
 rw [shG_W] at sh
 rw [hz] at su3
 have m00 := Tryz.rmul d.x n.x (by have := hd.1; omega) (by have := hn.1; omega)
 have m01 := Tryz.rmul d.x n.y (by have := hd.1; omega) (by have := hn.2.1; omega)
 have m02 := Tryz.rmul d.x n.z (by have := hd.1; omega) (by have := hn.2.2; omega)
 have a0 : Con Tryz.prog Tryz.L 33 [.str (rt (d.x * n.x)), .str [49]] (.str (rt (d.x * n.x + 1))) := by
  have h := Tryz.radd (d.x * n.x) 1 (by have := rd_mul hd.1 hn.1; omega) (by decide +kernel)
  rw [show rt 1 = [49] by decide +kernel] at h
  exact h
 have m10 := Tryz.rmul d.y n.x (by have := hd.2.1; omega) (by have := hn.1; omega)
 have m11 := Tryz.rmul d.y n.y (by have := hd.2.1; omega) (by have := hn.2.1; omega)
 have m12 := Tryz.rmul d.y n.z (by have := hd.2.1; omega) (by have := hn.2.2; omega)
 have a1 : Con Tryz.prog Tryz.L 33 [.str (rt (d.y * n.y)), .str [49]] (.str (rt (d.y * n.y + 1))) := by
  have h := Tryz.radd (d.y * n.y) 1 (by have := rd_mul hd.2.1 hn.2.1; omega) (by decide +kernel)
  rw [show rt 1 = [49] by decide +kernel] at h
  exact h
 have m20 := Tryz.rmul d.z n.x (by have := hd.2.2; omega) (by have := hn.1; omega)
 have m21 := Tryz.rmul d.z n.y (by have := hd.2.2; omega) (by have := hn.2.1; omega)
 have m22 := Tryz.rmul d.z n.z (by have := hd.2.2; omega) (by have := hn.2.2; omega)
 have a2 : Con Tryz.prog Tryz.L 33 [.str (rt (d.z * n.z)), .str [49]] (.str (rt (d.z * n.z + 1))) := by
  have h := Tryz.radd (d.z * n.z) 1 (by have := rd_mul hd.2.2 hn.2.2; omega) (by decide +kernel)
  rw [show rt 1 = [49] by decide +kernel] at h
  exact h
 generalize G3.one = I at *
 generalize V3.zero = O at *
 refine rule5 Tryz.hL rfl rfl rfl ?_
 simp only [T3.L, V3.t, M3.L, V3.L, shW, rt0, pc5, rs5, oU, oC, evX, evY, evZ, forall_const, implies_true, initE, stepF, D.clean, mvF, moF, tkF, shF, ariF, ciF, catF, scF, ebF, eqF, eqOk, eqPr, enF, notF, ngF, cvF, csF, csbF, lenF, lenSF, ixF, iaF, PX.slot, iaAF, faF, ldF, D.mem, stF, bxF, mkSF, boundF, fldF, ixAF, mmF2, D.plain, D.isPure, optAll, D.dull, callVF, splice, D.cells, D.one, sets, resT, D.flat, D.flat0, D.simple, Nat.reduceBNe, Nat.reduceLT, reduceIte, Nat.reduceEqDiff, Nat.reduceAdd, Nat.reduceMul, Nat.reduceSub, Nat.reduceLeDiff, Int.reduceToNat, Int.reduceLT, Int.reduceLE, Int.reduceEq, Int.reduceNeg, Int.reduceSub, Int.reduceAdd, Int.reduceMul, stG_own] at kn nu nv lu lv wu wv tr sh id p0 p1 p2 su3 m00 m01 m02 a0 m10 m11 m12 a1 m20 m21 m22 a2 ⊢
 repeat (refine ⟨by decide, ?_⟩)
 refine callF_of kn ?_
 (refine ev ?_; try exact ⟨⟩)
 repeat (refine ⟨by decide, ?_⟩)
 refine callF_of nu ?_
 (refine ev ?_; try exact ⟨⟩)
 repeat (refine ⟨by decide, ?_⟩)
 refine callF_of lu ?_
 (refine ev ?_; try exact ⟨⟩)
 repeat (refine ⟨by decide, ?_⟩)
 refine callF_of nv ?_
 (refine ev ?_; try exact ⟨⟩)
 repeat (refine ⟨by decide, ?_⟩)
 refine callF_of lv ?_
 (refine ev ?_; try exact ⟨⟩)
 repeat (refine ⟨by decide, ?_⟩)
 refine callF_of tr ?_
 (refine ev ?_; try exact ⟨⟩)
 repeat (refine ⟨by decide, ?_⟩)
 refine callF_of sh ?_
 (refine ev ?_; try exact ⟨⟩)
 repeat (refine ⟨by decide, ?_⟩)
 refine callF_of nu ?_
 (refine ev ?_; try exact ⟨⟩)
 repeat (refine ⟨by decide, ?_⟩)
 refine callF_of wu ?_
 (refine ev ?_; try exact ⟨⟩)
 repeat (refine ⟨by decide, ?_⟩)
 refine callF_of id ?_
 (refine ev ?_; try exact ⟨⟩)
 repeat (refine ⟨by decide, ?_⟩)
 refine callF_of nv ?_
 (refine ev ?_; try exact ⟨⟩)
 repeat (refine ⟨by decide, ?_⟩)
 refine callF_of wv ?_
 (refine ev ?_; try exact ⟨⟩)
 repeat (refine ⟨by decide, ?_⟩)
 refine callF_of p0 ?_
 (refine ev ?_; try exact ⟨⟩)
 repeat (refine ⟨by decide, ?_⟩)
 refine callF_of p1 ?_
 (refine ev ?_; try exact ⟨⟩)
 repeat (refine ⟨by decide, ?_⟩)
 refine callF_of p2 ?_
 (refine ev ?_; try exact ⟨⟩)
 repeat (refine ⟨by decide, ?_⟩)
 refine callF_of su3 ?_
 (refine ev ?_; try exact ⟨⟩)
 repeat (refine ⟨by decide, ?_⟩)
 refine callF_of nu ?_
 (refine ev ?_; try exact ⟨⟩)
 repeat (refine ⟨by decide, ?_⟩)
 refine callF_of nv ?_
 (refine ev ?_; try exact ⟨⟩)
 refine loopF_of (fun E => ∃ (w : List D) (i : Int), ((i = 0 ∧ w = [.str [], .str [], .str [], .str [], .str [], .str [], .str [], .str [], .str []]) ∨ (i = 1 ∧ w = [.str (rt (d.x * n.x + 1)), .str (rt (d.x * n.y)), .str (rt (d.x * n.z)), .str [], .str [], .str [], .str [], .str [], .str []]) ∨ (i = 2 ∧ w = [.str (rt (d.x * n.x + 1)), .str (rt (d.x * n.y)), .str (rt (d.x * n.z)), .str (rt (d.y * n.x)), .str (rt (d.y * n.y + 1)), .str (rt (d.y * n.z)), .str [], .str [], .str []]) ∨ (i = 3 ∧ w = [.str (rt (d.x * n.x + 1)), .str (rt (d.x * n.y)), .str (rt (d.x * n.z)), .str (rt (d.y * n.x)), .str (rt (d.y * n.y + 1)), .str (rt (d.y * n.z)), .str (rt (d.z * n.x)), .str (rt (d.z * n.y)), .str (rt (d.z * n.z + 1))])) ∧ E = [(7, .box true [.str (rt (d.x * n.x + 1)), .str (rt (d.x * n.y)), .str (rt (d.x * n.z)), .str (rt (d.y * n.x)), .str (rt (d.y * n.y + 1)), .str (rt (d.y * n.z)), .str (rt (d.z * n.x)), .str (rt (d.z * n.y)), .str (rt (d.z * n.z + 1)), .str (rt O.x), .str (rt O.y), .str (rt O.z)]), (8, .int .i64 0), (9, .box true [.str (rt I.a.x), .str (rt I.a.y), .str (rt I.a.z), .str (rt I.b.x), .str (rt I.b.y), .str (rt I.b.z), .str (rt I.c.x), .str (rt I.c.y), .str (rt I.c.z), .str (rt n.x), .str (rt n.y), .str (rt n.z)]), (11, .own true 28 3 [.str (rt n.x), .str (rt n.y), .str (rt n.z)]), (12, .own true 28 3 [.str (rt d.x), .str (rt d.y), .str (rt d.z)]), (13, .box true w), (14, .int .i64 i)])
  (fun E => match lk E 14 with | .int _ i => (3 - i).toNat | _ => 0) ⟨_, _, .inl ⟨rfl, rfl⟩, by simp⟩ ?_
 rintro _ ⟨w, i, hw, rfl⟩
 rcases hw with ⟨rfl, rfl⟩ | ⟨rfl, rfl⟩ | ⟨rfl, rfl⟩ | ⟨rfl, rfl⟩
 ·(refine ev ?_; try exact ⟨⟩)
  repeat (refine ⟨by decide, ?_⟩)
  refine loopF_of (fun E => ∃ (w : List D) (k : Int), ((k = 0 ∧ w = [.str [], .str [], .str [], .str [], .str [], .str [], .str [], .str [], .str []]) ∨ (k = 1 ∧ w = [.str (rt (d.x * n.x + 1)), .str [], .str [], .str [], .str [], .str [], .str [], .str [], .str []]) ∨ (k = 2 ∧ w = [.str (rt (d.x * n.x + 1)), .str (rt (d.x * n.y)), .str [], .str [], .str [], .str [], .str [], .str [], .str []]) ∨ (k = 3 ∧ w = [.str (rt (d.x * n.x + 1)), .str (rt (d.x * n.y)), .str (rt (d.x * n.z)), .str [], .str [], .str [], .str [], .str [], .str []])) ∧ E = [(7, .box true [.str (rt (d.x * n.x + 1)), .str (rt (d.x * n.y)), .str (rt (d.x * n.z)), .str (rt (d.y * n.x)), .str (rt (d.y * n.y + 1)), .str (rt (d.y * n.z)), .str (rt (d.z * n.x)), .str (rt (d.z * n.y)), .str (rt (d.z * n.z + 1)), .str (rt O.x), .str (rt O.y), .str (rt O.z)]), (8, .int .i64 0), (9, .box true [.str (rt I.a.x), .str (rt I.a.y), .str (rt I.a.z), .str (rt I.b.x), .str (rt I.b.y), .str (rt I.b.z), .str (rt I.c.x), .str (rt I.c.y), .str (rt I.c.z), .str (rt n.x), .str (rt n.y), .str (rt n.z)]), (11, .own true 28 3 [.str (rt n.x), .str (rt n.y), .str (rt n.z)]), (12, .own true 28 3 [.str (rt d.x), .str (rt d.y), .str (rt d.z)]), (13, .box true w), (14, .int .i64 0), (15, .int .i64 k)])
   (fun E => match lk E 15 with | .int _ i => (3 - i).toNat | _ => 0) ⟨_, _, .inl ⟨rfl, rfl⟩, by simp⟩ ?_
  rintro _ ⟨w, k, hw, rfl⟩
  rcases hw with ⟨rfl, rfl⟩ | ⟨rfl, rfl⟩ | ⟨rfl, rfl⟩ | ⟨rfl, rfl⟩
  ·(refine ev ?_; try exact ⟨⟩)
   repeat (refine ⟨by decide, ?_⟩)
   refine callF_of m00 ?_
   (refine ev ?_; try exact ⟨⟩)
   repeat (refine ⟨by decide, ?_⟩)
   refine callF_of a0 ?_
   (refine ev ?_; try exact ⟨⟩)
   repeat (refine ⟨by decide, ?_⟩)
   exact ⟨_, _, .inr (.inl ⟨rfl, rfl⟩), by simp⟩
  ·(refine ev ?_; try exact ⟨⟩)
   repeat (refine ⟨by decide, ?_⟩)
   refine callF_of m01 ?_
   (refine ev ?_; try exact ⟨⟩)
   repeat (refine ⟨by decide, ?_⟩)
   exact ⟨_, _, .inr (.inr (.inl ⟨rfl, rfl⟩)), by simp⟩
  ·(refine ev ?_; try exact ⟨⟩)
   repeat (refine ⟨by decide, ?_⟩)
   refine callF_of m02 ?_
   (refine ev ?_; try exact ⟨⟩)
   repeat (refine ⟨by decide, ?_⟩)
   exact ⟨_, _, .inr (.inr (.inr (⟨rfl, rfl⟩))), by simp⟩
  ·(refine ev ?_; try exact ⟨⟩)
   repeat (refine ⟨by decide, ?_⟩)
   exact ⟨_, _, .inr (.inl ⟨rfl, rfl⟩), by simp⟩
 ·(refine ev ?_; try exact ⟨⟩)
  repeat (refine ⟨by decide, ?_⟩)
  refine loopF_of (fun E => ∃ (w : List D) (k : Int), ((k = 0 ∧ w = [.str (rt (d.x * n.x + 1)), .str (rt (d.x * n.y)), .str (rt (d.x * n.z)), .str [], .str [], .str [], .str [], .str [], .str []]) ∨ (k = 1 ∧ w = [.str (rt (d.x * n.x + 1)), .str (rt (d.x * n.y)), .str (rt (d.x * n.z)), .str (rt (d.y * n.x)), .str [], .str [], .str [], .str [], .str []]) ∨ (k = 2 ∧ w = [.str (rt (d.x * n.x + 1)), .str (rt (d.x * n.y)), .str (rt (d.x * n.z)), .str (rt (d.y * n.x)), .str (rt (d.y * n.y + 1)), .str [], .str [], .str [], .str []]) ∨ (k = 3 ∧ w = [.str (rt (d.x * n.x + 1)), .str (rt (d.x * n.y)), .str (rt (d.x * n.z)), .str (rt (d.y * n.x)), .str (rt (d.y * n.y + 1)), .str (rt (d.y * n.z)), .str [], .str [], .str []])) ∧ E = [(7, .box true [.str (rt (d.x * n.x + 1)), .str (rt (d.x * n.y)), .str (rt (d.x * n.z)), .str (rt (d.y * n.x)), .str (rt (d.y * n.y + 1)), .str (rt (d.y * n.z)), .str (rt (d.z * n.x)), .str (rt (d.z * n.y)), .str (rt (d.z * n.z + 1)), .str (rt O.x), .str (rt O.y), .str (rt O.z)]), (8, .int .i64 0), (9, .box true [.str (rt I.a.x), .str (rt I.a.y), .str (rt I.a.z), .str (rt I.b.x), .str (rt I.b.y), .str (rt I.b.z), .str (rt I.c.x), .str (rt I.c.y), .str (rt I.c.z), .str (rt n.x), .str (rt n.y), .str (rt n.z)]), (11, .own true 28 3 [.str (rt n.x), .str (rt n.y), .str (rt n.z)]), (12, .own true 28 3 [.str (rt d.x), .str (rt d.y), .str (rt d.z)]), (13, .box true w), (14, .int .i64 1), (15, .int .i64 k)])
   (fun E => match lk E 15 with | .int _ i => (3 - i).toNat | _ => 0) ⟨_, _, .inl ⟨rfl, rfl⟩, by simp⟩ ?_
  rintro _ ⟨w, k, hw, rfl⟩
  rcases hw with ⟨rfl, rfl⟩ | ⟨rfl, rfl⟩ | ⟨rfl, rfl⟩ | ⟨rfl, rfl⟩
  ·(refine ev ?_; try exact ⟨⟩)
   repeat (refine ⟨by decide, ?_⟩)
   refine callF_of m10 ?_
   (refine ev ?_; try exact ⟨⟩)
   repeat (refine ⟨by decide, ?_⟩)
   exact ⟨_, _, .inr (.inl ⟨rfl, rfl⟩), by simp⟩
  ·(refine ev ?_; try exact ⟨⟩)
   repeat (refine ⟨by decide, ?_⟩)
   refine callF_of m11 ?_
   (refine ev ?_; try exact ⟨⟩)
   repeat (refine ⟨by decide, ?_⟩)
   refine callF_of a1 ?_
   (refine ev ?_; try exact ⟨⟩)
   repeat (refine ⟨by decide, ?_⟩)
   exact ⟨_, _, .inr (.inr (.inl ⟨rfl, rfl⟩)), by simp⟩
  ·(refine ev ?_; try exact ⟨⟩)
   repeat (refine ⟨by decide, ?_⟩)
   refine callF_of m12 ?_
   (refine ev ?_; try exact ⟨⟩)
   repeat (refine ⟨by decide, ?_⟩)
   exact ⟨_, _, .inr (.inr (.inr (⟨rfl, rfl⟩))), by simp⟩
  ·(refine ev ?_; try exact ⟨⟩)
   repeat (refine ⟨by decide, ?_⟩)
   exact ⟨_, _, .inr (.inr (.inl ⟨rfl, rfl⟩)), by simp⟩
 ·(refine ev ?_; try exact ⟨⟩)
  repeat (refine ⟨by decide, ?_⟩)
  refine loopF_of (fun E => ∃ (w : List D) (k : Int), ((k = 0 ∧ w = [.str (rt (d.x * n.x + 1)), .str (rt (d.x * n.y)), .str (rt (d.x * n.z)), .str (rt (d.y * n.x)), .str (rt (d.y * n.y + 1)), .str (rt (d.y * n.z)), .str [], .str [], .str []]) ∨ (k = 1 ∧ w = [.str (rt (d.x * n.x + 1)), .str (rt (d.x * n.y)), .str (rt (d.x * n.z)), .str (rt (d.y * n.x)), .str (rt (d.y * n.y + 1)), .str (rt (d.y * n.z)), .str (rt (d.z * n.x)), .str [], .str []]) ∨ (k = 2 ∧ w = [.str (rt (d.x * n.x + 1)), .str (rt (d.x * n.y)), .str (rt (d.x * n.z)), .str (rt (d.y * n.x)), .str (rt (d.y * n.y + 1)), .str (rt (d.y * n.z)), .str (rt (d.z * n.x)), .str (rt (d.z * n.y)), .str []]) ∨ (k = 3 ∧ w = [.str (rt (d.x * n.x + 1)), .str (rt (d.x * n.y)), .str (rt (d.x * n.z)), .str (rt (d.y * n.x)), .str (rt (d.y * n.y + 1)), .str (rt (d.y * n.z)), .str (rt (d.z * n.x)), .str (rt (d.z * n.y)), .str (rt (d.z * n.z + 1))])) ∧ E = [(7, .box true [.str (rt (d.x * n.x + 1)), .str (rt (d.x * n.y)), .str (rt (d.x * n.z)), .str (rt (d.y * n.x)), .str (rt (d.y * n.y + 1)), .str (rt (d.y * n.z)), .str (rt (d.z * n.x)), .str (rt (d.z * n.y)), .str (rt (d.z * n.z + 1)), .str (rt O.x), .str (rt O.y), .str (rt O.z)]), (8, .int .i64 0), (9, .box true [.str (rt I.a.x), .str (rt I.a.y), .str (rt I.a.z), .str (rt I.b.x), .str (rt I.b.y), .str (rt I.b.z), .str (rt I.c.x), .str (rt I.c.y), .str (rt I.c.z), .str (rt n.x), .str (rt n.y), .str (rt n.z)]), (11, .own true 28 3 [.str (rt n.x), .str (rt n.y), .str (rt n.z)]), (12, .own true 28 3 [.str (rt d.x), .str (rt d.y), .str (rt d.z)]), (13, .box true w), (14, .int .i64 2), (15, .int .i64 k)])
   (fun E => match lk E 15 with | .int _ i => (3 - i).toNat | _ => 0) ⟨_, _, .inl ⟨rfl, rfl⟩, by simp⟩ ?_
  rintro _ ⟨w, k, hw, rfl⟩
  rcases hw with ⟨rfl, rfl⟩ | ⟨rfl, rfl⟩ | ⟨rfl, rfl⟩ | ⟨rfl, rfl⟩
  ·(refine ev ?_; try exact ⟨⟩)
   repeat (refine ⟨by decide, ?_⟩)
   refine callF_of m20 ?_
   (refine ev ?_; try exact ⟨⟩)
   repeat (refine ⟨by decide, ?_⟩)
   exact ⟨_, _, .inr (.inl ⟨rfl, rfl⟩), by simp⟩
  ·(refine ev ?_; try exact ⟨⟩)
   repeat (refine ⟨by decide, ?_⟩)
   refine callF_of m21 ?_
   (refine ev ?_; try exact ⟨⟩)
   repeat (refine ⟨by decide, ?_⟩)
   exact ⟨_, _, .inr (.inr (.inl ⟨rfl, rfl⟩)), by simp⟩
  ·(refine ev ?_; try exact ⟨⟩)
   repeat (refine ⟨by decide, ?_⟩)
   refine callF_of m22 ?_
   (refine ev ?_; try exact ⟨⟩)
   repeat (refine ⟨by decide, ?_⟩)
   refine callF_of a2 ?_
   (refine ev ?_; try exact ⟨⟩)
   repeat (refine ⟨by decide, ?_⟩)
   exact ⟨_, _, .inr (.inr (.inr (⟨rfl, rfl⟩))), by simp⟩
  ·(refine ev ?_; try exact ⟨⟩)
   repeat (refine ⟨by decide, ?_⟩)
   exact ⟨_, _, .inr (.inr (.inr (⟨rfl, rfl⟩))), by simp⟩
 ·(refine ev ?_; try exact ⟨⟩)
  repeat (refine ⟨by decide, ?_⟩)
  refine callF_of id ?_
  (refine ev ?_; try exact ⟨⟩)
  refine loopF_of (fun E => ∃ (w : List D) (i : Int), ((i = 0 ∧ w = [.str (rt I.a.x), .str (rt I.a.y), .str (rt I.a.z), .str (rt I.b.x), .str (rt I.b.y), .str (rt I.b.z), .str (rt I.c.x), .str (rt I.c.y), .str (rt I.c.z), .str (rt O.x), .str (rt O.y), .str (rt O.z)]) ∨ (i = 1 ∧ w = [.str (rt (d.x * n.x + 1)), .str (rt (d.x * n.y)), .str (rt (d.x * n.z)), .str (rt I.b.x), .str (rt I.b.y), .str (rt I.b.z), .str (rt I.c.x), .str (rt I.c.y), .str (rt I.c.z), .str (rt O.x), .str (rt O.y), .str (rt O.z)]) ∨ (i = 2 ∧ w = [.str (rt (d.x * n.x + 1)), .str (rt (d.x * n.y)), .str (rt (d.x * n.z)), .str (rt (d.y * n.x)), .str (rt (d.y * n.y + 1)), .str (rt (d.y * n.z)), .str (rt I.c.x), .str (rt I.c.y), .str (rt I.c.z), .str (rt O.x), .str (rt O.y), .str (rt O.z)]) ∨ (i = 3 ∧ w = [.str (rt (d.x * n.x + 1)), .str (rt (d.x * n.y)), .str (rt (d.x * n.z)), .str (rt (d.y * n.x)), .str (rt (d.y * n.y + 1)), .str (rt (d.y * n.z)), .str (rt (d.z * n.x)), .str (rt (d.z * n.y)), .str (rt (d.z * n.z + 1)), .str (rt O.x), .str (rt O.y), .str (rt O.z)])) ∧ E = [(7, .box true [.str (rt (d.x * n.x + 1)), .str (rt (d.x * n.y)), .str (rt (d.x * n.z)), .str (rt (d.y * n.x)), .str (rt (d.y * n.y + 1)), .str (rt (d.y * n.z)), .str (rt (d.z * n.x)), .str (rt (d.z * n.y)), .str (rt (d.z * n.z + 1)), .str (rt O.x), .str (rt O.y), .str (rt O.z)]), (8, .int .i64 0), (9, .box true w), (13, .box true [.str (rt (d.x * n.x + 1)), .str (rt (d.x * n.y)), .str (rt (d.x * n.z)), .str (rt (d.y * n.x)), .str (rt (d.y * n.y + 1)), .str (rt (d.y * n.z)), .str (rt (d.z * n.x)), .str (rt (d.z * n.y)), .str (rt (d.z * n.z + 1))]), (16, .int .i64 i)])
   (fun E => match lk E 16 with | .int _ i => (3 - i).toNat | _ => 0) ⟨_, _, .inl ⟨rfl, rfl⟩, by simp⟩ ?_
  rintro _ ⟨w, i, hw, rfl⟩
  rcases hw with ⟨rfl, rfl⟩ | ⟨rfl, rfl⟩ | ⟨rfl, rfl⟩ | ⟨rfl, rfl⟩
  ·(refine ev ?_; try exact ⟨⟩)
   repeat (refine ⟨by decide, ?_⟩)
   exact ⟨_, _, .inr (.inl ⟨rfl, rfl⟩), by simp⟩
  ·(refine ev ?_; try exact ⟨⟩)
   repeat (refine ⟨by decide, ?_⟩)
   exact ⟨_, _, .inr (.inr (.inl ⟨rfl, rfl⟩)), by simp⟩
  ·(refine ev ?_; try exact ⟨⟩)
   repeat (refine ⟨by decide, ?_⟩)
   exact ⟨_, _, .inr (.inr (.inr (⟨rfl, rfl⟩))), by simp⟩
  ·(refine ev ?_; try exact ⟨⟩)
   all_goals rfl
end Go.Proofs
