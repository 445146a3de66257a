/-
 AFFINE: Fixed. Own work.
-/
import Derived.Test.YtbcehhemdapjlaaGreatDoorPj
import Derived.Test.YtbcehhemdapjlaaGreatDoorSh
import Derived.Test.YtbcehhemdapjlaaGreatDoorSg
set_option linter.unusedVariables false
set_option linter.unusedSimpArgs false
namespace Go.Proofs
open Go Go.Pi Go.RowKit Go.Shelf Go.Ar Go.Mx

theorem Tryz.alist (v : V3) : Con Tryz.prog Tryz.L 61 [.agg v.L] (.sl 3 v.L) := by
 refine rule61 Tryz.hL rfl rfl rfl ?_
 simp only [V3.L, pc61, rs61, oU, oC, evX, evY, evZ, forall_const, implies_true, initE, stepF, D.clean, mvF, moF, tkF, shF, ariF, ciF, catF, scF, ebF, eqF, eqOk, eqPr, enF, notF, ngF, cvF, csF, csbF, lenF, lenSF, ixF, iaF, PX.slot, iaAF, faF, ldF, D.mem, stF, bxF, mkSF, boundF, fldF, ixAF, mmF2, D.plain, D.isPure, optAll, D.dull, callVF, splice, D.cells, D.one, sets, resT, D.flat, D.flat0, D.simple, Nat.reduceBNe, Nat.reduceLT, reduceIte, Nat.reduceEqDiff, Nat.reduceAdd, Nat.reduceMul, Nat.reduceSub, Nat.reduceLeDiff, Int.reduceToNat, Int.reduceLT, Int.reduceLE, Int.reduceEq, Int.reduceNeg, Int.reduceSub, Int.reduceAdd, Int.reduceMul, stG_own]
/-- the rows less those of the identity -/
def M3.fr (m : M3) (i : Nat) : V3 := (m.g.row i).sub (G3.one.row i)
def M3.fF (m : M3) : Mtx := fun i j => (m.fr i).at' j
def M3.fy (m : M3) : Nat → Rat := fun i => -(m.s.at' i)
theorem M3.f_mat (m : M3) : matD 3 3 m.fF = .sl 3 [.sl 3 (m.fr 0).L, .sl 3 (m.fr 1).L, .sl 3 (m.fr 2).L] := rfl
theorem M3.f_rhs (m : M3) : rowD 3 m.fy = .sl 3 [.str (rt (-m.s.x)), .str (rt (-m.s.y)), .str (rt (-m.s.z))] := rfl
theorem strs3 (f : Nat → Rat) : strs 3 f = [.str (rt (f 0)), .str (rt (f 1)), .str (rt (f 2))] := rfl
/-- the free directions -/
def fixK (K : RSt) (n : Nat) : List D := tsD (lst n fun i => (V3.of (kerM K 3 i)).t)
theorem fixK_succ (K : RSt) (n : Nat) : fixK K (n + 1) = fixK K n ++ (V3.of (kerM K 3 n)).L := by
 unfold fixK tsD
 rw [lst_succ, List.flatMap_append]
 simp [T3.L, V3.t, V3.L]
theorem fixK_len (K : RSt) (n : Nat) : (fixK K n).length = 3 * n := by
 unfold fixK; rw [tsD_len, lst_len]
noncomputable def fixR (s K : RSt) : D := @ite D (okS 3 3 s) (Classical.propDecidable _) (.tup [.agg (V3.of (solV s 3)).L, .sl (freeC K.lead 3).length (fixK K (freeC K.lead 3).length), .bool true, .int .i64 0]) (.tup [.agg [.str [], .str [], .str []], .sl 0 [], .bool false, .int .i64 0])
set_option maxRecDepth 100000 in
set_option maxHeartbeats 8000000 in
theorem Tryz.aFixed (m : M3) (w : Nat) (h3 : w = 3) (hm : m.rd 20) (hw : RBs 2 3 (w + 1) (wideM w m.fF fun i _ => m.fy i)) (hF : RBs 2 3 w m.fF) : Con Tryz.prog Tryz.L 14 [.agg m.L] (fixR (redM 3 (wideM w m.fF fun i _ => m.fy i) w) (redM 3 m.fF w)) := by
 have ck := Tryz.amcheck m (M3.rd_mono hm (by decide))
 have ro := Tryz.arows m
 have un := Tryz.aunit
 have h1 := G3.rd_one
 have s0 : Con Tryz.prog Tryz.L 59 [.agg m.g.a.L, .agg G3.one.a.L] (.agg (m.fr 0).L) := Tryz.asub m.g.a G3.one.a hm.1.1 h1.1 (by decide) (by decide)
 have s1 : Con Tryz.prog Tryz.L 59 [.agg m.g.b.L, .agg G3.one.b.L] (.agg (m.fr 1).L) := Tryz.asub m.g.b G3.one.b hm.1.2.1 h1.2.1 (by decide) (by decide)
 have s2 : Con Tryz.prog Tryz.L 59 [.agg m.g.c.L, .agg G3.one.c.L] (.agg (m.fr 2).L) := Tryz.asub m.g.c G3.one.c hm.1.2.2 h1.2.2 (by decide) (by decide)
 have l0 := Tryz.alist (m.fr 0); have l1 := Tryz.alist (m.fr 1); have l2 := Tryz.alist (m.fr 2)
 have os := Tryz.aof m.s
 have n0 := Tryz.rneg m.s.x (by have := hm.2.1; omega)
 have n1 := Tryz.rneg m.s.y (by have := hm.2.2.1; omega)
 have n2 := Tryz.rneg m.s.z (by have := hm.2.2.2; omega)
 have hp : (2 + 1) * 2 ^ w = 24 := by rw [h3]
 have hwr := rbs_red hw (w := w) (by omega)
 have hFr := rbs_red hF (w := w) (Nat.le_refl _)
 rw [hp] at hwr hFr
 have hgd := good_red 3 m.fF w
 have hfc := free_count hgd.inc hgd.lt
 have hle : (redM 3 (wideM w m.fF fun i _ => m.fy i) w).lead.length ≤ 3 := (good_red 3 _ w).len
 have hrt : Rts 3 w m.fF := rts_of hF (by decide)
 have hyr : Rt 3 m.fy := fun i hi => by
  have := rd_of_nb ((hw i hi).nb (j := w) (by omega))
  have e : wideM w m.fF (fun i _ => m.fy i) i w = m.fy i := if_neg (by omega)
  rw [e] at this
  show rd (m.fy i) ≤ 200
  omega
 have hsn := solV_nb (n := 3) (m := w) hwr hle
 have hsv : (V3.of (solV (redM 3 (wideM w m.fF fun i _ => m.fy i) w) w)).rd 200 := ⟨by have := rd_of_nb (hsn 0); exact Nat.le_trans this (by decide), by have := rd_of_nb (hsn 1); exact Nat.le_trans this (by decide), by have := rd_of_nb (hsn 2); exact Nat.le_trans this (by decide)⟩
 have hS := Tryz.msolveW 3 w m.fF m.fy (by decide) (by decide) (by omega) hrt hyr (bnd_of hw (by omega) (by omega)) (fun _ j _ => by have := rd_of_nb (hsn j); exact Nat.le_trans this (by decide))
 have hK := Tryz.mkernel 3 w m.fF (by decide) (by omega) (fun h => absurd h (by decide)) hrt (bnd_of hF (Nat.le_refl _) (by omega)) (fun i hi j _ => by have := rd_of_nb (kerM_nb hFr hgd hi j); exact Nat.le_trans this (by decide))
 have pl := Tryz.aplace (V3.of (solV (redM 3 (wideM w m.fF fun i _ => m.fy i) w) w)) hsv
 have vv := fun i => Tryz.avector (V3.of (kerM (redM 3 m.fF w) w i))
 generalize redM 3 (wideM w m.fF fun i _ => m.fy i) w = S at *
 generalize redM 3 m.fF w = K at *
 clear hwr hFr hsn hrt hyr hsv hp hw hF
 subst h3
 rw [M3.f_rhs] at hS
 rw [M3.f_mat] at hS hK
 generalize hN : (freeC K.lead 3).length = N at *
 refine rule14 Tryz.hL (by unfold fixR; split <;> rfl) rfl rfl ?_
 simp only [V3.L, M3.L, G3.L, pc14, rs14, oU, oC, evX, evY, evZ, forall_const, implies_true, initE, stepF, D.clean, mvF, moF, tkF, shF, ariF, ciF, catF, scF, ebF, eqF, eqOk, eqPr, enF, notF, ngF, cvF, csF, csbF, lenF, lenSF, ixF, iaF, PX.slot, iaAF, faF, ldF, D.mem, stF, bxF, mkSF, boundF, fldF, ixAF, mmF2, D.plain, D.isPure, optAll, D.dull, callVF, splice, D.cells, D.one, sets, resT, D.flat, D.flat0, D.simple, Nat.reduceBNe, Nat.reduceLT, reduceIte, Nat.reduceEqDiff, Nat.reduceAdd, Nat.reduceMul, Nat.reduceSub, Nat.reduceLeDiff, Int.reduceToNat, Int.reduceLT, Int.reduceLE, Int.reduceEq, Int.reduceNeg, Int.reduceSub, Int.reduceAdd, Int.reduceMul, stG_own] at ck ro un s0 s1 s2 l0 l1 l2 os pl hS hK ⊢
 refine callF_of ck ?_
 (refine ev ?_; try exact ⟨⟩)
 refine callF_of ro ?_
 (refine ev ?_; try exact ⟨⟩)
 refine loopF_of (fun E => ∃ (p q : D) (i : Int), ((i = 0 ∧ p = .own true 59 0 [] ∧ q = .own true 28 0 []) ∨ (i = 1 ∧ p = .own true 59 1 [.sl 3 (m.fr 0).L] ∧ q = .own true 28 1 [.str (rt (-m.s.x))]) ∨ (i = 2 ∧ p = .own true 59 2 [.sl 3 (m.fr 0).L, .sl 3 (m.fr 1).L] ∧ q = .own true 28 2 [.str (rt (-m.s.x)), .str (rt (-m.s.y))]) ∨ (i = 3 ∧ p = .own true 59 3 [.sl 3 (m.fr 0).L, .sl 3 (m.fr 1).L, .sl 3 (m.fr 2).L] ∧ q = .own true 28 3 [.str (rt (-m.s.x)), .str (rt (-m.s.y)), .str (rt (-m.s.z))])) ∧ E = [(1, .box true m.L), (2, .box true [.str [], .str [], .str []]), (3, .own true 30 0 []), (8, p), (9, q), (26, .agg m.g.L), (27, .int .i64 i)])
  (fun E => match lk E 27 with | .int _ i => (3 - i).toNat | _ => 0) ⟨_, _, _, .inl ⟨rfl, rfl, rfl⟩, by simp [M3.L, G3.L]⟩ ?_
 rintro _ ⟨p, q, i, hp, rfl⟩
 rcases hp with ⟨rfl, rfl, rfl⟩ | ⟨rfl, rfl, rfl⟩ | ⟨rfl, rfl, rfl⟩ | ⟨rfl, rfl, rfl⟩
 ·simp only [V3.L, M3.L, G3.L, evX, evY, evZ, forall_const, implies_true, initE, stepF, D.clean, mvF, moF, tkF, shF, ariF, ciF, catF, scF, ebF, eqF, eqOk, eqPr, enF, notF, ngF, cvF, csF, csbF, lenF, lenSF, ixF, iaF, PX.slot, iaAF, faF, ldF, D.mem, stF, bxF, mkSF, boundF, fldF, ixAF, mmF2, D.plain, D.isPure, optAll, D.dull, callVF, splice, D.cells, D.one, sets, resT, D.flat, D.flat0, D.simple, Nat.reduceBNe, Nat.reduceLT, reduceIte, Nat.reduceEqDiff, Nat.reduceAdd, Nat.reduceMul, Nat.reduceSub, Nat.reduceLeDiff, Int.reduceToNat, Int.reduceLT, Int.reduceLE, Int.reduceEq, Int.reduceNeg, Int.reduceSub, Int.reduceAdd, Int.reduceMul, stG_own]
  repeat (refine ⟨by decide, ?_⟩)
  refine callF_of un ?_
  (refine ev ?_; try exact ⟨⟩)
  repeat (refine ⟨by decide, ?_⟩)
  refine callF_of s0 ?_
  (refine ev ?_; try exact ⟨⟩)
  refine callF_of l0 ?_
  (refine ev ?_; try exact ⟨⟩)
  repeat (refine ⟨by decide, ?_⟩)
  refine callF_of os ?_
  (refine ev ?_; try exact ⟨⟩)
  repeat (refine ⟨by decide, ?_⟩)
  refine callF_of n0 ?_
  (refine ev ?_; try exact ⟨⟩)
  repeat (refine ⟨by decide, ?_⟩)
  exact ⟨_, _, _, .inr (.inl ⟨rfl, rfl, rfl⟩), by simp [M3.L, G3.L, V3.L]⟩
 ·simp only [V3.L, M3.L, G3.L, evX, evY, evZ, forall_const, implies_true, initE, stepF, D.clean, mvF, moF, tkF, shF, ariF, ciF, catF, scF, ebF, eqF, eqOk, eqPr, enF, notF, ngF, cvF, csF, csbF, lenF, lenSF, ixF, iaF, PX.slot, iaAF, faF, ldF, D.mem, stF, bxF, mkSF, boundF, fldF, ixAF, mmF2, D.plain, D.isPure, optAll, D.dull, callVF, splice, D.cells, D.one, sets, resT, D.flat, D.flat0, D.simple, Nat.reduceBNe, Nat.reduceLT, reduceIte, Nat.reduceEqDiff, Nat.reduceAdd, Nat.reduceMul, Nat.reduceSub, Nat.reduceLeDiff, Int.reduceToNat, Int.reduceLT, Int.reduceLE, Int.reduceEq, Int.reduceNeg, Int.reduceSub, Int.reduceAdd, Int.reduceMul, stG_own]
  repeat (refine ⟨by decide, ?_⟩)
  refine callF_of un ?_
  (refine ev ?_; try exact ⟨⟩)
  repeat (refine ⟨by decide, ?_⟩)
  refine callF_of s1 ?_
  (refine ev ?_; try exact ⟨⟩)
  refine callF_of l1 ?_
  (refine ev ?_; try exact ⟨⟩)
  repeat (refine ⟨by decide, ?_⟩)
  refine callF_of os ?_
  (refine ev ?_; try exact ⟨⟩)
  repeat (refine ⟨by decide, ?_⟩)
  refine callF_of n1 ?_
  (refine ev ?_; try exact ⟨⟩)
  repeat (refine ⟨by decide, ?_⟩)
  exact ⟨_, _, _, .inr (.inr (.inl ⟨rfl, rfl, rfl⟩)), by simp [M3.L, G3.L, V3.L]⟩
 ·simp only [V3.L, M3.L, G3.L, evX, evY, evZ, forall_const, implies_true, initE, stepF, D.clean, mvF, moF, tkF, shF, ariF, ciF, catF, scF, ebF, eqF, eqOk, eqPr, enF, notF, ngF, cvF, csF, csbF, lenF, lenSF, ixF, iaF, PX.slot, iaAF, faF, ldF, D.mem, stF, bxF, mkSF, boundF, fldF, ixAF, mmF2, D.plain, D.isPure, optAll, D.dull, callVF, splice, D.cells, D.one, sets, resT, D.flat, D.flat0, D.simple, Nat.reduceBNe, Nat.reduceLT, reduceIte, Nat.reduceEqDiff, Nat.reduceAdd, Nat.reduceMul, Nat.reduceSub, Nat.reduceLeDiff, Int.reduceToNat, Int.reduceLT, Int.reduceLE, Int.reduceEq, Int.reduceNeg, Int.reduceSub, Int.reduceAdd, Int.reduceMul, stG_own]
  repeat (refine ⟨by decide, ?_⟩)
  refine callF_of un ?_
  (refine ev ?_; try exact ⟨⟩)
  repeat (refine ⟨by decide, ?_⟩)
  refine callF_of s2 ?_
  (refine ev ?_; try exact ⟨⟩)
  refine callF_of l2 ?_
  (refine ev ?_; try exact ⟨⟩)
  repeat (refine ⟨by decide, ?_⟩)
  refine callF_of os ?_
  (refine ev ?_; try exact ⟨⟩)
  repeat (refine ⟨by decide, ?_⟩)
  refine callF_of n2 ?_
  (refine ev ?_; try exact ⟨⟩)
  repeat (refine ⟨by decide, ?_⟩)
  exact ⟨_, _, _, .inr (.inr (.inr ⟨rfl, rfl, rfl⟩)), by simp [M3.L, G3.L, V3.L]⟩
 ·simp only [V3.L, M3.L, G3.L, evX, evY, evZ, forall_const, implies_true, initE, stepF, D.clean, mvF, moF, tkF, shF, ariF, ciF, catF, scF, ebF, eqF, eqOk, eqPr, enF, notF, ngF, cvF, csF, csbF, lenF, lenSF, ixF, iaF, PX.slot, iaAF, faF, ldF, D.mem, stF, bxF, mkSF, boundF, fldF, ixAF, mmF2, D.plain, D.isPure, optAll, D.dull, callVF, splice, D.cells, D.one, sets, resT, D.flat, D.flat0, D.simple, Nat.reduceBNe, Nat.reduceLT, reduceIte, Nat.reduceEqDiff, Nat.reduceAdd, Nat.reduceMul, Nat.reduceSub, Nat.reduceLeDiff, Int.reduceToNat, Int.reduceLT, Int.reduceLE, Int.reduceEq, Int.reduceNeg, Int.reduceSub, Int.reduceAdd, Int.reduceMul, stG_own]
  by_cases hok : okS 3 3 S
  ·rw [show fixR S K = _ from if_pos hok]
   rw [show solD 3 3 S = _ from if_pos hok] at hS
   refine callF_of hS ?_
   (refine ev ?_; try exact ⟨⟩)
   refine ⟨fun h => absurd h (by split <;> decide), fun _ => ?_⟩
   refine callF_of hK ?_
   (refine ev ?_; try exact ⟨⟩)
   rw [hN]
   refine loopF_of (fun E => ∃ k : Nat, k ≤ N ∧ E = [(2, .box true [.str [], .str [], .str []]), (3, .own true 30 k (fixK K k)), (12, .sl 3 (strs 3 (solV S 3))), (76, matD N 3 (kerM K 3)), (77, .int .i64 N), (78, .int .i64 k)])
    (fun E => match lk E 78 with | .int _ i => N - i.toNat | _ => 0) ⟨0, Nat.zero_le _, rfl⟩ ?_
   rintro _ ⟨k, hk, rfl⟩
   (refine ev ?_; try exact ⟨⟩)
   refine ⟨fun h3 => ?_, fun h3 => ?_⟩
   ·have hkN : k < N := by omega
    have hv := vv k
    simp only [V3.L] at hv
    refine ⟨⟨by omega, by omega, by rw [rowsD_len]; omega⟩, ?_⟩
    rw [ldC_rowsD]
    refine ⟨hkN, ?_⟩
    simp only [strs3, evX, evY, evZ, forall_const, implies_true, initE, stepF, D.clean, mvF, moF, tkF, shF, ariF, ciF, catF, scF, ebF, eqF, eqOk, eqPr, enF, notF, ngF, cvF, csF, csbF, lenF, lenSF, ixF, iaF, PX.slot, iaAF, faF, ldF, D.mem, stF, bxF, mkSF, boundF, fldF, ixAF, mmF2, D.plain, D.isPure, optAll, D.dull, callVF, splice, D.cells, D.one, sets, resT, D.flat, D.flat0, D.simple, Nat.reduceBNe, Nat.reduceLT, reduceIte, Nat.reduceEqDiff, Nat.reduceAdd, Nat.reduceMul, Nat.reduceSub, Nat.reduceLeDiff, Int.reduceToNat, Int.reduceLT, Int.reduceLE, Int.reduceEq, Int.reduceNeg, Int.reduceSub, Int.reduceAdd, Int.reduceMul, stG_own]
    repeat (refine ⟨by decide, ?_⟩)
    refine callF_of hv ?_
    (refine ev ?_; try exact ⟨⟩)
    have hl := fixK_len K k
    exact ⟨by omega, by omega, by omega, ⟨k + 1, by omega, by rw [fixK_succ]; rfl, by simp⟩, by omega⟩
   ·obtain rfl : k = N := by omega
    simp only [strs3, evX, evY, evZ, forall_const, implies_true, initE, stepF, D.clean, mvF, moF, tkF, shF, ariF, ciF, catF, scF, ebF, eqF, eqOk, eqPr, enF, notF, ngF, cvF, csF, csbF, lenF, lenSF, ixF, iaF, PX.slot, iaAF, faF, ldF, D.mem, stF, bxF, mkSF, boundF, fldF, ixAF, mmF2, D.plain, D.isPure, optAll, D.dull, callVF, splice, D.cells, D.one, sets, resT, D.flat, D.flat0, D.simple, Nat.reduceBNe, Nat.reduceLT, reduceIte, Nat.reduceEqDiff, Nat.reduceAdd, Nat.reduceMul, Nat.reduceSub, Nat.reduceLeDiff, Int.reduceToNat, Int.reduceLT, Int.reduceLE, Int.reduceEq, Int.reduceNeg, Int.reduceSub, Int.reduceAdd, Int.reduceMul, stG_own]
    repeat (refine ⟨by decide, ?_⟩)
    refine callF_of pl ?_
    (refine ev ?_; try exact ⟨⟩)
    rfl
  ·rw [show fixR S K = _ from if_neg hok]
   rw [show solD 3 3 S = _ from if_neg hok] at hS
   refine callF_of hS ?_
   (refine ev ?_; try exact ⟨⟩)
   all_goals rfl
end Go.Proofs

/-
 AFFINE: Translation, Shear; the law's vectors and plans, printed by tools/aff5.py. Own work.
-/
namespace Go.Proofs
open Go Go.Pi Go.RowKit Go.Shelf Go.Ar Go.Mx

theorem Tryz.afirst2 (u v : V3) (h : u.rd 200) (h' : v.rd 200) : Con Tryz.prog Tryz.L 74 [.sl 2 [.str (rt u.x), .str (rt u.y), .str (rt u.z), .str (rt v.x), .str (rt v.y), .str (rt v.z)]] (.int .i64 0) := by
 have fi := Tryz.tfirst [u.t, v.t] (by simp) (all2.2 ⟨V3.t_sz h (by decide), V3.t_sz h' (by decide)⟩)
 rw [chk_t (all2.2 ⟨(V3.t_ok u).2 h, (V3.t_ok v).2 h'⟩)] at fi
 exact fi
/-- the rows of a shear -/
def shG (n d : V3) : G3 := ⟨G3.one.a.add (n.mul d.x), G3.one.b.add (n.mul d.y), G3.one.c.add (n.mul d.z)⟩
set_option maxHeartbeats 4000000 in
theorem Tryz.aShear (n d : V3) (hn : n.rd 90) (hd : d.rd 90) (h0 : n.dot d = 0) : Con Tryz.prog Tryz.L 28 [.agg n.L, .agg d.L] (.tup [.agg (M3.mk (shG n d) V3.zero).L, .int .i64 0]) := by
 have fi := Tryz.afirst2 n d (V3.rd_mono hn (by decide)) (V3.rd_mono hd (by decide))
 have on := Tryz.aof n
 have od := Tryz.aof d
 have dt := Tryz.adot n d hn hd (by decide)
 rw [h0, rt0] at dt
 have un := Tryz.aunit
 have hm := fun (q : Rat) (hq : rd q ≤ 90) => V3.rd_mulq hn hq
 have t0 := Tryz.atimes n d.x hn (by have := hd.1; omega) (by decide)
 have t1 := Tryz.atimes n d.y hn (by have := hd.2.1; omega) (by decide)
 have t2 := Tryz.atimes n d.z hn (by have := hd.2.2; omega) (by decide)
 have a0 := Tryz.aadd G3.one.a (n.mul d.x) G3.rd_one.1 (hm _ hd.1) (by decide) (by decide)
 have a1 := Tryz.aadd G3.one.b (n.mul d.y) G3.rd_one.2.1 (hm _ hd.2.1) (by decide) (by decide)
 have a2 := Tryz.aadd G3.one.c (n.mul d.z) G3.rd_one.2.2 (hm _ hd.2.2) (by decide) (by decide)
 have hG : (shG n d).rd 200 := by
  have key : ∀ (e : V3) (q : Rat), e.rd 1 → rd q ≤ 90 → (e.add (n.mul q)).rd 200 := fun e q he hq => by
   have h := hm q hq
   exact ⟨by have := rd_add he.1 h.1; show rd (_ + _) ≤ _; omega, by have := rd_add he.2.1 h.2.1; show rd (_ + _) ≤ _; omega, by have := rd_add he.2.2 h.2.2; show rd (_ + _) ≤ _; omega⟩
  exact ⟨key _ _ G3.rd_one.1 hd.1, key _ _ G3.rd_one.2.1 hd.2.1, key _ _ G3.rd_one.2.2 hd.2.2⟩
 have ma := Tryz.amade (shG n d) V3.zero hG (V3.rd_mono V3.rd_zero (by decide))
 have hz : V3.zero.L = [.str [48], .str [48], .str [48]] := by simp only [V3.L, V3.zero, rt0]
 rw [hz] at ma
 have hz2 : (M3.mk (shG n d) V3.zero).L = (G3.L (shG n d)) ++ V3.L V3.zero := rfl
 rw [hz2, hz] at ma ⊢
 have e0 : (shG n d).a = G3.one.a.add (n.mul d.x) := rfl
 have e1 : (shG n d).b = G3.one.b.add (n.mul d.y) := rfl
 have e2 : (shG n d).c = G3.one.c.add (n.mul d.z) := rfl
 generalize shG n d = G at *
 rw [← e0] at a0; rw [← e1] at a1; rw [← e2] at a2
 clear e0 e1 e2 hG
 generalize G3.one = O at *
 refine rule28 Tryz.hL rfl rfl rfl ?_
 simp only [V3.L, G3.L, M3.L, List.cons_append, List.nil_append, pc28, rs28, oU, oC, evX, evY, evZ, forall_const, implies_true, initE, stepF, D.clean, mvF, moF, tkF, shF, ariF, ciF, catF, scF, ebF, eqF, eqOk, eqPr, enF, notF, ngF, cvF, csF, csbF, lenF, lenSF, ixF, iaF, PX.slot, iaAF, faF, ldF, D.mem, stF, bxF, mkSF, boundF, fldF, ixAF, mmF2, D.plain, D.isPure, optAll, D.dull, callVF, splice, D.cells, D.one, sets, resT, D.flat, D.flat0, D.simple, Nat.reduceBNe, Nat.reduceLT, reduceIte, Nat.reduceEqDiff, Nat.reduceAdd, Nat.reduceMul, Nat.reduceSub, Nat.reduceLeDiff, Int.reduceToNat, Int.reduceLT, Int.reduceLE, Int.reduceEq, Int.reduceNeg, Int.reduceSub, Int.reduceAdd, Int.reduceMul, stG_own] at fi on od dt un t0 t1 t2 a0 a1 a2 ma ⊢
 repeat (refine ⟨by decide, ?_⟩)
 refine callF_of fi ?_
 (refine ev ?_; try exact ⟨⟩)
 repeat (refine ⟨by decide, ?_⟩)
 refine callF_of on ?_
 (refine ev ?_; try exact ⟨⟩)
 repeat (refine ⟨by decide, ?_⟩)
 refine callF_of od ?_
 (refine ev ?_; try exact ⟨⟩)
 repeat (refine ⟨by decide, ?_⟩)
 refine callF_of dt ?_
 (refine ev ?_; try exact ⟨⟩)
 repeat (refine ⟨by decide, ?_⟩)
 refine callF_of un ?_
 (refine ev ?_; try exact ⟨⟩)
 refine loopF_of (fun E => ∃ (p : List D) (i : Int), ((i = 0 ∧ p = [.str (rt O.a.x), .str (rt O.a.y), .str (rt O.a.z), .str (rt O.b.x), .str (rt O.b.y), .str (rt O.b.z), .str (rt O.c.x), .str (rt O.c.y), .str (rt O.c.z)]) ∨ (i = 1 ∧ p = [.str (rt G.a.x), .str (rt G.a.y), .str (rt G.a.z), .str (rt O.b.x), .str (rt O.b.y), .str (rt O.b.z), .str (rt O.c.x), .str (rt O.c.y), .str (rt O.c.z)]) ∨ (i = 2 ∧ p = [.str (rt G.a.x), .str (rt G.a.y), .str (rt G.a.z), .str (rt G.b.x), .str (rt G.b.y), .str (rt G.b.z), .str (rt O.c.x), .str (rt O.c.y), .str (rt O.c.z)]) ∨ (i = 3 ∧ p = [.str (rt G.a.x), .str (rt G.a.y), .str (rt G.a.z), .str (rt G.b.x), .str (rt G.b.y), .str (rt G.b.z), .str (rt G.c.x), .str (rt G.c.y), .str (rt G.c.z)])) ∧ E = [(4, .box true [.str [], .str [], .str [], .str [], .str [], .str [], .str [], .str [], .str [], .str [], .str [], .str []]), (7, .box true n.L), (8, .box true d.L), (9, .box true p), (29, .int .i64 i)])
  (fun E => match lk E 29 with | .int _ i => (3 - i).toNat | _ => 0) ⟨_, _, .inl ⟨rfl, rfl⟩, by simp [V3.L]⟩ ?_
 rintro _ ⟨p, i, hp, rfl⟩
 rcases hp with ⟨rfl, rfl⟩ | ⟨rfl, rfl⟩ | ⟨rfl, rfl⟩ | ⟨rfl, rfl⟩
 ·simp only [V3.L, evX, evY, evZ, forall_const, implies_true, initE, stepF, D.clean, mvF, moF, tkF, shF, ariF, ciF, catF, scF, ebF, eqF, eqOk, eqPr, enF, notF, ngF, cvF, csF, csbF, lenF, lenSF, ixF, iaF, PX.slot, iaAF, faF, ldF, D.mem, stF, bxF, mkSF, boundF, fldF, ixAF, mmF2, D.plain, D.isPure, optAll, D.dull, callVF, splice, D.cells, D.one, sets, resT, D.flat, D.flat0, D.simple, Nat.reduceBNe, Nat.reduceLT, reduceIte, Nat.reduceEqDiff, Nat.reduceAdd, Nat.reduceMul, Nat.reduceSub, Nat.reduceLeDiff, Int.reduceToNat, Int.reduceLT, Int.reduceLE, Int.reduceEq, Int.reduceNeg, Int.reduceSub, Int.reduceAdd, Int.reduceMul, stG_own]
  repeat (refine ⟨by decide, ?_⟩)
  refine callF_of t0 ?_
  (refine ev ?_; try exact ⟨⟩)
  refine callF_of a0 ?_
  (refine ev ?_; try exact ⟨⟩)
  repeat (refine ⟨by decide, ?_⟩)
  exact ⟨_, _, .inr (.inl ⟨rfl, rfl⟩), by simp [V3.L]⟩
 ·simp only [V3.L, evX, evY, evZ, forall_const, implies_true, initE, stepF, D.clean, mvF, moF, tkF, shF, ariF, ciF, catF, scF, ebF, eqF, eqOk, eqPr, enF, notF, ngF, cvF, csF, csbF, lenF, lenSF, ixF, iaF, PX.slot, iaAF, faF, ldF, D.mem, stF, bxF, mkSF, boundF, fldF, ixAF, mmF2, D.plain, D.isPure, optAll, D.dull, callVF, splice, D.cells, D.one, sets, resT, D.flat, D.flat0, D.simple, Nat.reduceBNe, Nat.reduceLT, reduceIte, Nat.reduceEqDiff, Nat.reduceAdd, Nat.reduceMul, Nat.reduceSub, Nat.reduceLeDiff, Int.reduceToNat, Int.reduceLT, Int.reduceLE, Int.reduceEq, Int.reduceNeg, Int.reduceSub, Int.reduceAdd, Int.reduceMul, stG_own]
  repeat (refine ⟨by decide, ?_⟩)
  refine callF_of t1 ?_
  (refine ev ?_; try exact ⟨⟩)
  refine callF_of a1 ?_
  (refine ev ?_; try exact ⟨⟩)
  repeat (refine ⟨by decide, ?_⟩)
  exact ⟨_, _, .inr (.inr (.inl ⟨rfl, rfl⟩)), by simp [V3.L]⟩
 ·simp only [V3.L, evX, evY, evZ, forall_const, implies_true, initE, stepF, D.clean, mvF, moF, tkF, shF, ariF, ciF, catF, scF, ebF, eqF, eqOk, eqPr, enF, notF, ngF, cvF, csF, csbF, lenF, lenSF, ixF, iaF, PX.slot, iaAF, faF, ldF, D.mem, stF, bxF, mkSF, boundF, fldF, ixAF, mmF2, D.plain, D.isPure, optAll, D.dull, callVF, splice, D.cells, D.one, sets, resT, D.flat, D.flat0, D.simple, Nat.reduceBNe, Nat.reduceLT, reduceIte, Nat.reduceEqDiff, Nat.reduceAdd, Nat.reduceMul, Nat.reduceSub, Nat.reduceLeDiff, Int.reduceToNat, Int.reduceLT, Int.reduceLE, Int.reduceEq, Int.reduceNeg, Int.reduceSub, Int.reduceAdd, Int.reduceMul, stG_own]
  repeat (refine ⟨by decide, ?_⟩)
  refine callF_of t2 ?_
  (refine ev ?_; try exact ⟨⟩)
  refine callF_of a2 ?_
  (refine ev ?_; try exact ⟨⟩)
  repeat (refine ⟨by decide, ?_⟩)
  exact ⟨_, _, .inr (.inr (.inr ⟨rfl, rfl⟩)), by simp [V3.L]⟩
 ·simp only [V3.L, evX, evY, evZ, forall_const, implies_true, initE, stepF, D.clean, mvF, moF, tkF, shF, ariF, ciF, catF, scF, ebF, eqF, eqOk, eqPr, enF, notF, ngF, cvF, csF, csbF, lenF, lenSF, ixF, iaF, PX.slot, iaAF, faF, ldF, D.mem, stF, bxF, mkSF, boundF, fldF, ixAF, mmF2, D.plain, D.isPure, optAll, D.dull, callVF, splice, D.cells, D.one, sets, resT, D.flat, D.flat0, D.simple, Nat.reduceBNe, Nat.reduceLT, reduceIte, Nat.reduceEqDiff, Nat.reduceAdd, Nat.reduceMul, Nat.reduceSub, Nat.reduceLeDiff, Int.reduceToNat, Int.reduceLT, Int.reduceLE, Int.reduceEq, Int.reduceNeg, Int.reduceSub, Int.reduceAdd, Int.reduceMul, stG_own]
  refine callF_of ma ?_
  (refine ev ?_; try exact ⟨⟩)
  rfl
theorem sf_int (z : Int) (h : z.natAbs ≤ 1000000000) : SF (z : Rat) := ⟨h, by show (1 : Nat) ≤ _; decide⟩
theorem div1 (z : Int) : (z : Rat) / ((1 : Int) : Rat) = (z : Rat) := by
 rw [Rat.div_def]
 have : ((1 : Int) : Rat)⁻¹ = 1 := by decide +kernel
 rw [this, Rat.mul_one]
set_option maxHeartbeats 2000000 in
theorem Tryz.avec (x y z : Int) (hx : x.natAbs ≤ 1000000000) (hy : y.natAbs ≤ 1000000000) (hz : z.natAbs ≤ 1000000000) : Con Tryz.prog Tryz.L 22 [.int .i64 x, .int .i64 y, .int .i64 z] (.agg (V3.L ⟨(x : Rat), (y : Rat), (z : Rat)⟩)) := by
 have mx := Tryz.fmake x 1 (by decide) (by omega) (by decide)
 rw [div1] at mx
 have my := Tryz.fmake y 1 (by decide) (by omega) (by decide)
 rw [div1] at my
 have mz := Tryz.fmake z 1 (by decide) (by omega) (by decide)
 rw [div1] at mz
 have ve := Tryz.wvector ⟨(x : Rat), (y : Rat), (z : Rat)⟩ ⟨sf_int x hx, sf_int y hy, sf_int z hz⟩
 refine rule22 Tryz.hL rfl rfl rfl ?_
 simp only [V3.L, G3.L, M3.L, fD, V3.F, pc22, rs22, oU, oC, evX, evY, evZ, forall_const, implies_true, initE, stepF, D.clean, mvF, moF, tkF, shF, ariF, ciF, catF, scF, ebF, eqF, eqOk, eqPr, enF, notF, ngF, cvF, csF, csbF, lenF, lenSF, ixF, iaF, PX.slot, iaAF, faF, ldF, D.mem, stF, bxF, mkSF, boundF, fldF, ixAF, mmF2, D.plain, D.isPure, optAll, D.dull, callVF, splice, D.cells, D.one, sets, resT, D.flat, D.flat0, D.simple, Nat.reduceBNe, Nat.reduceLT, reduceIte, Nat.reduceEqDiff, Nat.reduceAdd, Nat.reduceMul, Nat.reduceSub, Nat.reduceLeDiff, Int.reduceToNat, Int.reduceLT, Int.reduceLE, Int.reduceEq, Int.reduceNeg, Int.reduceSub, Int.reduceAdd, Int.reduceMul, stG_own] at mx my mz ve ⊢
 repeat (refine ⟨by decide, ?_⟩)
 refine callF_of mx ?_
 (refine ev ?_; try exact ⟨⟩)
 repeat (refine ⟨by decide, ?_⟩)
 refine callF_of my ?_
 (refine ev ?_; try exact ⟨⟩)
 repeat (refine ⟨by decide, ?_⟩)
 refine callF_of mz ?_
 (refine ev ?_; try exact ⟨⟩)
 repeat (refine ⟨by decide, ?_⟩)
 refine callF_of ve ?_
 (refine ev ?_; try exact ⟨⟩)
 all_goals rfl
end Go.Proofs

/-
 AFFINE: plans, printed by tools/aff6.py. Own work.
-/
namespace Go.Proofs
open Go Go.Pi Go.RowKit Go.Shelf Go.Ar Go.Mx

/-- a number of a plan -/
def vq (h : Bool) (a : Int) : Rat := ((a.tmod 7 : Int) : Rat) / (((if h then 2 else 1 : Int)) : Rat)
theorem tmod7 (z : Int) : -6 ≤ z.tmod 7 ∧ z.tmod 7 ≤ 6 := by
 have h1 := Int.tmod_lt_of_pos z (show (0 : Int) < 7 by decide)
 have h2 := Int.tmod_lt_of_pos (-z) (show (0 : Int) < 7 by decide)
 rw [Int.neg_tmod] at h2
 omega
theorem vq_cb (h : Bool) (a : Int) : CB 2 12 (vq h a) := by
 have ht := tmod7 a
 unfold vq
 generalize a.tmod 7 = z at *
 cases h
 ·refine ⟨2 * z, by omega, ?_⟩
  show (z : Rat) / ((1 : Int) : Rat) * ((2 : Nat) : Rat) = _
  rw [div1, Rat.intCast_mul]
  have : ((2 : Nat) : Rat) = 2 := rfl
  have e2 : ((2 : Int) : Rat) = 2 := rfl
  rw [this, e2]; grind
 ·refine ⟨z, by omega, ?_⟩
  show (z : Rat) / ((2 : Int) : Rat) * ((2 : Nat) : Rat) = _
  have h3 : ((2 : Int) : Rat) * ((2 : Int) : Rat)⁻¹ = 1 := Rat.mul_inv_cancel _ (by decide +kernel)
  have : ((2 : Nat) : Rat) = ((2 : Int) : Rat) := rfl
  rw [this, Rat.div_def, Rat.mul_assoc, Rat.mul_comm _ ((2 : Int) : Rat), h3, Rat.mul_one]
def i8 (z : Int) : Prop := -128 ≤ z ∧ z ≤ 127
set_option maxHeartbeats 2000000 in
theorem Tryz.lvec (a b c : Int) (h : Bool) (ha : i8 a) (hb : i8 b) (hc : i8 c) : Con Tryz.prog Tryz.L 19 [.agg [.int .i8 a, .int .i8 b, .int .i8 c], .bool h] (.agg (V3.F ⟨vq h a, vq h b, vq h c⟩)) := by
 have ta := tmod7 a; have tb := tmod7 b; have tc := tmod7 c
 obtain ⟨ha1, ha2⟩ := ha; obtain ⟨hb1, hb2⟩ := hb; obtain ⟨hc1, hc2⟩ := hc
 have hd : (if h then 2 else 1 : Int).natAbs ≤ 2 ∧ (if h then 2 else 1 : Int) ≠ 0 := by cases h <;> decide
 have m1 := Tryz.fmake (a.tmod 7) (if h then 2 else 1) hd.2 (by omega) (by omega)
 have m2 := Tryz.fmake (b.tmod 7) (if h then 2 else 1) hd.2 (by omega) (by omega)
 have m3 := Tryz.fmake (c.tmod 7) (if h then 2 else 1) hd.2 (by omega) (by omega)
 have m1 : Con Tryz.prog Tryz.L 39 [.int .i64 (a.tmod 7), .int .i64 (if h then 2 else 1)] (fD (vq h a)) := m1
 have m2 : Con Tryz.prog Tryz.L 39 [.int .i64 (b.tmod 7), .int .i64 (if h then 2 else 1)] (fD (vq h b)) := m2
 have m3 : Con Tryz.prog Tryz.L 39 [.int .i64 (c.tmod 7), .int .i64 (if h then 2 else 1)] (fD (vq h c)) := m3
 generalize vq h a = qa at *
 generalize vq h b = qb at *
 generalize vq h c = qc at *
 refine rule19 Tryz.hL rfl rfl rfl ?_
 cases h
 all_goals
  simp only [fD, V3.F, reduceIte, pc19, rs19, oU, oC, evX, evY, evZ, forall_const, implies_true, initE, stepF, D.clean, mvF, moF, tkF, shF, ariF, ciF, catF, scF, ebF, eqF, eqOk, eqPr, enF, notF, ngF, cvF, csF, csbF, lenF, lenSF, ixF, iaF, PX.slot, iaAF, faF, ldF, D.mem, stF, bxF, mkSF, boundF, fldF, ixAF, mmF2, D.plain, D.isPure, optAll, D.dull, callVF, splice, D.cells, D.one, sets, resT, D.flat, D.flat0, D.simple, Nat.reduceBNe, Nat.reduceLT, reduceIte, Nat.reduceEqDiff, Nat.reduceAdd, Nat.reduceMul, Nat.reduceSub, Nat.reduceLeDiff, Int.reduceToNat, Int.reduceLT, Int.reduceLE, Int.reduceEq, Int.reduceNeg, Int.reduceSub, Int.reduceAdd, Int.reduceMul, stG_own, Bool.false_eq_true] at m1 m2 m3 ⊢
  repeat (refine ⟨by decide, ?_⟩)
  refine ⟨by omega, ?_⟩
  refine callF_of m1 ?_
  (refine ev ?_; try exact ⟨⟩)
  repeat (refine ⟨by decide, ?_⟩)
  refine ⟨by omega, ?_⟩
  refine callF_of m2 ?_
  (refine ev ?_; try exact ⟨⟩)
  repeat (refine ⟨by decide, ?_⟩)
  refine ⟨by omega, ?_⟩
  refine callF_of m3 ?_
  (refine ev ?_; try exact ⟨⟩)
  rfl
/-- a plan -/
structure Pl where
 r : Nat → Int
 h : Bool
def Pl.ok (p : Pl) : Prop := ∀ i, i < 12 → i8 (p.r i)
def Pl.D (p : Pl) : List D := [.int .i8 (p.r 0), .int .i8 (p.r 1), .int .i8 (p.r 2), .int .i8 (p.r 3), .int .i8 (p.r 4), .int .i8 (p.r 5), .int .i8 (p.r 6), .int .i8 (p.r 7), .int .i8 (p.r 8), .int .i8 (p.r 9), .int .i8 (p.r 10), .int .i8 (p.r 11), .bool p.h]
def Pl.v (p : Pl) (i : Nat) : V3 := ⟨vq p.h (p.r i), vq p.h (p.r (i + 1)), vq p.h (p.r (i + 2))⟩
def Pl.m (p : Pl) : M3 := ⟨⟨p.v 0, p.v 3, p.v 6⟩, p.v 9⟩
theorem Pl.cb (p : Pl) (i : Nat) : (p.v i).CB 2 12 := ⟨vq_cb _ _, vq_cb _ _, vq_cb _ _⟩
set_option maxHeartbeats 4000000 in
theorem Tryz.lmodel (p : Pl) (hp : p.ok) : Con Tryz.prog Tryz.L 17 [.agg p.D] (.agg p.m.F) := by
 have v0 : Con Tryz.prog Tryz.L 19 [.agg [.int .i8 (p.r 0), .int .i8 (p.r 1), .int .i8 (p.r 2)], .bool p.h] (.agg (p.v 0).F) := Tryz.lvec (p.r 0) (p.r 1) (p.r 2) p.h (hp 0 (by decide)) (hp 1 (by decide)) (hp 2 (by decide))
 have v1 : Con Tryz.prog Tryz.L 19 [.agg [.int .i8 (p.r 3), .int .i8 (p.r 4), .int .i8 (p.r 5)], .bool p.h] (.agg (p.v 3).F) := Tryz.lvec (p.r 3) (p.r 4) (p.r 5) p.h (hp 3 (by decide)) (hp 4 (by decide)) (hp 5 (by decide))
 have v2 : Con Tryz.prog Tryz.L 19 [.agg [.int .i8 (p.r 6), .int .i8 (p.r 7), .int .i8 (p.r 8)], .bool p.h] (.agg (p.v 6).F) := Tryz.lvec (p.r 6) (p.r 7) (p.r 8) p.h (hp 6 (by decide)) (hp 7 (by decide)) (hp 8 (by decide))
 have v3 : Con Tryz.prog Tryz.L 19 [.agg [.int .i8 (p.r 9), .int .i8 (p.r 10), .int .i8 (p.r 11)], .bool p.h] (.agg (p.v 9).F) := Tryz.lvec (p.r 9) (p.r 10) (p.r 11) p.h (hp 9 (by decide)) (hp 10 (by decide)) (hp 11 (by decide))
 refine rule17 Tryz.hL rfl rfl rfl ?_
 simp only [Pl.D, M3.F, Pl.m, V3.F, pc17, rs17, oU, oC, evX, evY, evZ, forall_const, implies_true, initE, stepF, D.clean, mvF, moF, tkF, shF, ariF, ciF, catF, scF, ebF, eqF, eqOk, eqPr, enF, notF, ngF, cvF, csF, csbF, lenF, lenSF, ixF, iaF, PX.slot, iaAF, faF, ldF, D.mem, stF, bxF, mkSF, boundF, fldF, ixAF, mmF2, D.plain, D.isPure, optAll, D.dull, callVF, splice, D.cells, D.one, sets, resT, D.flat, D.flat0, D.simple, Nat.reduceBNe, Nat.reduceLT, reduceIte, Nat.reduceEqDiff, Nat.reduceAdd, Nat.reduceMul, Nat.reduceSub, Nat.reduceLeDiff, Int.reduceToNat, Int.reduceLT, Int.reduceLE, Int.reduceEq, Int.reduceNeg, Int.reduceSub, Int.reduceAdd, Int.reduceMul, stG_own] at v0 v1 v2 v3 ⊢
 refine loopF_of (fun E => ∃ (w : List D) (i : Int), ((i = 0 ∧ w = [.int .i64 0, .int .i64 0, .int .i64 0, .int .i64 0, .int .i64 0, .int .i64 0, .int .i64 0, .int .i64 0, .int .i64 0, .int .i64 0, .int .i64 0, .int .i64 0, .int .i64 0, .int .i64 0, .int .i64 0, .int .i64 0, .int .i64 0, .int .i64 0, .int .i64 0, .int .i64 0, .int .i64 0, .int .i64 0, .int .i64 0, .int .i64 0]) ∨ (i = 1 ∧ w = [.int .i64 ((p.v 0).x).num, .int .i64 (((p.v 0).x).den : Int), .int .i64 ((p.v 0).y).num, .int .i64 (((p.v 0).y).den : Int), .int .i64 ((p.v 0).z).num, .int .i64 (((p.v 0).z).den : Int), .int .i64 0, .int .i64 0, .int .i64 0, .int .i64 0, .int .i64 0, .int .i64 0, .int .i64 0, .int .i64 0, .int .i64 0, .int .i64 0, .int .i64 0, .int .i64 0, .int .i64 0, .int .i64 0, .int .i64 0, .int .i64 0, .int .i64 0, .int .i64 0]) ∨ (i = 2 ∧ w = [.int .i64 ((p.v 0).x).num, .int .i64 (((p.v 0).x).den : Int), .int .i64 ((p.v 0).y).num, .int .i64 (((p.v 0).y).den : Int), .int .i64 ((p.v 0).z).num, .int .i64 (((p.v 0).z).den : Int), .int .i64 ((p.v 3).x).num, .int .i64 (((p.v 3).x).den : Int), .int .i64 ((p.v 3).y).num, .int .i64 (((p.v 3).y).den : Int), .int .i64 ((p.v 3).z).num, .int .i64 (((p.v 3).z).den : Int), .int .i64 0, .int .i64 0, .int .i64 0, .int .i64 0, .int .i64 0, .int .i64 0, .int .i64 0, .int .i64 0, .int .i64 0, .int .i64 0, .int .i64 0, .int .i64 0]) ∨ (i = 3 ∧ w = [.int .i64 ((p.v 0).x).num, .int .i64 (((p.v 0).x).den : Int), .int .i64 ((p.v 0).y).num, .int .i64 (((p.v 0).y).den : Int), .int .i64 ((p.v 0).z).num, .int .i64 (((p.v 0).z).den : Int), .int .i64 ((p.v 3).x).num, .int .i64 (((p.v 3).x).den : Int), .int .i64 ((p.v 3).y).num, .int .i64 (((p.v 3).y).den : Int), .int .i64 ((p.v 3).z).num, .int .i64 (((p.v 3).z).den : Int), .int .i64 ((p.v 6).x).num, .int .i64 (((p.v 6).x).den : Int), .int .i64 ((p.v 6).y).num, .int .i64 (((p.v 6).y).den : Int), .int .i64 ((p.v 6).z).num, .int .i64 (((p.v 6).z).den : Int), .int .i64 0, .int .i64 0, .int .i64 0, .int .i64 0, .int .i64 0, .int .i64 0])) ∧ E = [(1, .box true p.D), (2, .box true [.int .i64 0, .int .i64 0, .int .i64 0, .int .i64 0, .int .i64 0, .int .i64 0, .int .i64 0, .int .i64 0, .int .i64 0, .int .i64 0, .int .i64 0, .int .i64 0, .int .i64 0, .int .i64 0, .int .i64 0, .int .i64 0, .int .i64 0, .int .i64 0, .int .i64 0, .int .i64 0, .int .i64 0, .int .i64 0, .int .i64 0, .int .i64 0]), (3, .box true w), (4, .int .i64 i)])
  (fun E => match lk E 4 with | .int _ i => (3 - i).toNat | _ => 0) ⟨_, _, .inl ⟨rfl, rfl⟩, by simp [Pl.D]⟩ ?_
 rintro _ ⟨w, i, hw, rfl⟩
 rcases hw with ⟨rfl, rfl⟩ | ⟨rfl, rfl⟩ | ⟨rfl, rfl⟩ | ⟨rfl, rfl⟩
 ·simp only [Pl.D, evX, evY, evZ, forall_const, implies_true, initE, stepF, D.clean, mvF, moF, tkF, shF, ariF, ciF, catF, scF, ebF, eqF, eqOk, eqPr, enF, notF, ngF, cvF, csF, csbF, lenF, lenSF, ixF, iaF, PX.slot, iaAF, faF, ldF, D.mem, stF, bxF, mkSF, boundF, fldF, ixAF, mmF2, D.plain, D.isPure, optAll, D.dull, callVF, splice, D.cells, D.one, sets, resT, D.flat, D.flat0, D.simple, Nat.reduceBNe, Nat.reduceLT, reduceIte, Nat.reduceEqDiff, Nat.reduceAdd, Nat.reduceMul, Nat.reduceSub, Nat.reduceLeDiff, Int.reduceToNat, Int.reduceLT, Int.reduceLE, Int.reduceEq, Int.reduceNeg, Int.reduceSub, Int.reduceAdd, Int.reduceMul, stG_own]
  repeat (refine ⟨by decide, ?_⟩)
  refine callF_of v0 ?_
  (refine ev ?_; try exact ⟨⟩)
  repeat (refine ⟨by decide, ?_⟩)
  exact ⟨_, _, .inr (.inl ⟨rfl, rfl⟩), by simp [Pl.D]⟩
 ·simp only [Pl.D, evX, evY, evZ, forall_const, implies_true, initE, stepF, D.clean, mvF, moF, tkF, shF, ariF, ciF, catF, scF, ebF, eqF, eqOk, eqPr, enF, notF, ngF, cvF, csF, csbF, lenF, lenSF, ixF, iaF, PX.slot, iaAF, faF, ldF, D.mem, stF, bxF, mkSF, boundF, fldF, ixAF, mmF2, D.plain, D.isPure, optAll, D.dull, callVF, splice, D.cells, D.one, sets, resT, D.flat, D.flat0, D.simple, Nat.reduceBNe, Nat.reduceLT, reduceIte, Nat.reduceEqDiff, Nat.reduceAdd, Nat.reduceMul, Nat.reduceSub, Nat.reduceLeDiff, Int.reduceToNat, Int.reduceLT, Int.reduceLE, Int.reduceEq, Int.reduceNeg, Int.reduceSub, Int.reduceAdd, Int.reduceMul, stG_own]
  repeat (refine ⟨by decide, ?_⟩)
  refine callF_of v1 ?_
  (refine ev ?_; try exact ⟨⟩)
  repeat (refine ⟨by decide, ?_⟩)
  exact ⟨_, _, .inr (.inr (.inl ⟨rfl, rfl⟩)), by simp [Pl.D]⟩
 ·simp only [Pl.D, evX, evY, evZ, forall_const, implies_true, initE, stepF, D.clean, mvF, moF, tkF, shF, ariF, ciF, catF, scF, ebF, eqF, eqOk, eqPr, enF, notF, ngF, cvF, csF, csbF, lenF, lenSF, ixF, iaF, PX.slot, iaAF, faF, ldF, D.mem, stF, bxF, mkSF, boundF, fldF, ixAF, mmF2, D.plain, D.isPure, optAll, D.dull, callVF, splice, D.cells, D.one, sets, resT, D.flat, D.flat0, D.simple, Nat.reduceBNe, Nat.reduceLT, reduceIte, Nat.reduceEqDiff, Nat.reduceAdd, Nat.reduceMul, Nat.reduceSub, Nat.reduceLeDiff, Int.reduceToNat, Int.reduceLT, Int.reduceLE, Int.reduceEq, Int.reduceNeg, Int.reduceSub, Int.reduceAdd, Int.reduceMul, stG_own]
  repeat (refine ⟨by decide, ?_⟩)
  refine callF_of v2 ?_
  (refine ev ?_; try exact ⟨⟩)
  repeat (refine ⟨by decide, ?_⟩)
  exact ⟨_, _, .inr (.inr (.inr ⟨rfl, rfl⟩)), by simp [Pl.D]⟩
 ·simp only [Pl.D, evX, evY, evZ, forall_const, implies_true, initE, stepF, D.clean, mvF, moF, tkF, shF, ariF, ciF, catF, scF, ebF, eqF, eqOk, eqPr, enF, notF, ngF, cvF, csF, csbF, lenF, lenSF, ixF, iaF, PX.slot, iaAF, faF, ldF, D.mem, stF, bxF, mkSF, boundF, fldF, ixAF, mmF2, D.plain, D.isPure, optAll, D.dull, callVF, splice, D.cells, D.one, sets, resT, D.flat, D.flat0, D.simple, Nat.reduceBNe, Nat.reduceLT, reduceIte, Nat.reduceEqDiff, Nat.reduceAdd, Nat.reduceMul, Nat.reduceSub, Nat.reduceLeDiff, Int.reduceToNat, Int.reduceLT, Int.reduceLE, Int.reduceEq, Int.reduceNeg, Int.reduceSub, Int.reduceAdd, Int.reduceMul, stG_own]
  refine callF_of v3 ?_
  (refine ev ?_; try exact ⟨⟩)
  rfl
theorem V3.sf2 {v : V3} (h : v.CB 2 12) : v.SF := h.sf (by decide) (by decide) (by decide)
theorem Pl.sf (p : Pl) : p.m.SF := ⟨V3.sf2 (p.cb 0), V3.sf2 (p.cb 3), V3.sf2 (p.cb 6), V3.sf2 (p.cb 9)⟩
set_option maxHeartbeats 2000000 in
theorem Tryz.lmake (p : Pl) (hp : p.ok) : Con Tryz.prog Tryz.L 15 [.agg p.D] (.agg p.m.L) := by
 have mo := Tryz.lmodel p hp
 have af := Tryz.waffine p.m p.sf
 refine rule15 Tryz.hL rfl rfl rfl ?_
 simp only [Pl.D, M3.F, M3.L, pc15, rs15, oU, oC, evX, evY, evZ, forall_const, implies_true, initE, stepF, D.clean, mvF, moF, tkF, shF, ariF, ciF, catF, scF, ebF, eqF, eqOk, eqPr, enF, notF, ngF, cvF, csF, csbF, lenF, lenSF, ixF, iaF, PX.slot, iaAF, faF, ldF, D.mem, stF, bxF, mkSF, boundF, fldF, ixAF, mmF2, D.plain, D.isPure, optAll, D.dull, callVF, splice, D.cells, D.one, sets, resT, D.flat, D.flat0, D.simple, Nat.reduceBNe, Nat.reduceLT, reduceIte, Nat.reduceEqDiff, Nat.reduceAdd, Nat.reduceMul, Nat.reduceSub, Nat.reduceLeDiff, Int.reduceToNat, Int.reduceLT, Int.reduceLE, Int.reduceEq, Int.reduceNeg, Int.reduceSub, Int.reduceAdd, Int.reduceMul, stG_own] at mo af ⊢
 repeat (refine ⟨by decide, ?_⟩)
 refine callF_of mo ?_
 (refine ev ?_; try exact ⟨⟩)
 repeat (refine ⟨by decide, ?_⟩)
 refine callF_of af ?_
 (refine ev ?_; try exact ⟨⟩)
 all_goals rfl
/-- digits of numbers with a common denominator -/
theorem CB.rd {D k : Nat} {q : Rat} (h : CB D k q) (h0 : 0 < D) (h1 : D ≤ 1000000000) (h2 : k ≤ 1000000000) : rd q ≤ 10 := by
 obtain ⟨u, h3, h4⟩ := h
 have : NB 9 9 q := ⟨u, D, h0, h1, Nat.le_trans h3 h2, h4⟩
 have := rd_nb this
 omega
theorem V3.CB.rd {D k : Nat} {v : V3} (h : v.CB D k) (h0 : 0 < D) (h1 : D ≤ 1000000000) (h2 : k ≤ 1000000000) : v.rd 10 := ⟨h.1.rd h0 h1 h2, h.2.1.rd h0 h1 h2, h.2.2.rd h0 h1 h2⟩
theorem Pl.rd (p : Pl) : p.m.rd 10 := ⟨⟨(p.cb 0).rd (by decide) (by decide) (by decide), (p.cb 3).rd (by decide) (by decide) (by decide), (p.cb 6).rd (by decide) (by decide) (by decide)⟩, (p.cb 9).rd (by decide) (by decide) (by decide)⟩
end Go.Proofs

/-
 AFFINE: known() = true. Own work.
-/
namespace Go.Proofs
open Go Go.Pi Go.RowKit Go.Shelf Go.Ar Go.Mx

/-- the quarter turn of the examples -/
def turnM : M3 := ⟨⟨⟨0, -1, 0⟩, ⟨1, 0, 0⟩, ⟨0, 0, 1⟩⟩, ⟨2, 0, 0⟩⟩
theorem Tryz.lvecN (x y z : Int) (v : V3) (hx : x.natAbs ≤ 1000000000) (hy : y.natAbs ≤ 1000000000) (hz : z.natAbs ≤ 1000000000) (h1 : (x : Rat) = v.x) (h2 : (y : Rat) = v.y) (h3 : (z : Rat) = v.z) : Con Tryz.prog Tryz.L 22 [.int .i64 x, .int .i64 y, .int .i64 z] (.agg v.L) := by
 have h := Tryz.avec x y z hx hy hz
 rw [h1, h2, h3] at h
 exact h
theorem Tryz.lturn : Con Tryz.prog Tryz.L 57 [] (.agg turnM.L) := by
 have t1 := Tryz.lvecN 0 (-1) 0 turnM.g.a (by decide) (by decide) (by decide) (by decide +kernel) (by decide +kernel) (by decide +kernel)
 have t2 := Tryz.lvecN 1 0 0 turnM.g.b (by decide) (by decide) (by decide) (by decide +kernel) (by decide +kernel) (by decide +kernel)
 have t3 := Tryz.lvecN 0 0 1 turnM.g.c (by decide) (by decide) (by decide) (by decide +kernel) (by decide +kernel) (by decide +kernel)
 have t4 := Tryz.lvecN 2 0 0 turnM.s (by decide) (by decide) (by decide) (by decide +kernel) (by decide +kernel) (by decide +kernel)
 generalize turnM = m at *
 refine rule57 Tryz.hL rfl rfl rfl ?_
 simp only [V3.L, M3.L, pc57, rs57, oU, oC, evX, evY, evZ, forall_const, implies_true, initE, stepF, D.clean, mvF, moF, tkF, shF, ariF, ciF, catF, scF, ebF, eqF, eqOk, eqPr, enF, notF, ngF, cvF, csF, csbF, lenF, lenSF, ixF, iaF, PX.slot, iaAF, faF, ldF, D.mem, stF, bxF, mkSF, boundF, fldF, ixAF, mmF2, D.plain, D.isPure, optAll, D.dull, callVF, splice, D.cells, D.one, sets, resT, D.flat, D.flat0, D.simple, Nat.reduceBNe, Nat.reduceLT, reduceIte, Nat.reduceEqDiff, Nat.reduceAdd, Nat.reduceMul, Nat.reduceSub, Nat.reduceLeDiff, Int.reduceToNat, Int.reduceLT, Int.reduceLE, Int.reduceEq, Int.reduceNeg, Int.reduceSub, Int.reduceAdd, Int.reduceMul, stG_own] at t1 t2 t3 t4 ⊢
 refine callF_of t1 ?_
 (refine ev ?_; try exact ⟨⟩)
 refine callF_of t2 ?_
 (refine ev ?_; try exact ⟨⟩)
 refine callF_of t3 ?_
 (refine ev ?_; try exact ⟨⟩)
 refine callF_of t4 ?_
 (refine ev ?_; try exact ⟨⟩)
 rfl
/-! what Fixed needs -/
def M3.CB (D k : Nat) (m : M3) : Prop := m.g.a.CB D k ∧ m.g.b.CB D k ∧ m.g.c.CB D k ∧ m.s.CB D k
theorem V3.CB.at' {D k : Nat} {v : V3} (h : v.CB D k) (i : Nat) : Go.Proofs.CB D k (v.at' i) := by
 unfold V3.at'; split
 ·exact h.1
 ·split
  ·exact h.2.1
  ·exact h.2.2
theorem V3.CB.sub {D k l : Nat} {u v : V3} (h : u.CB D k) (h' : v.CB D l) : (u.sub v).CB D (k + l) := ⟨h.1.sub h'.1, h.2.1.sub h'.2.1, h.2.2.sub h'.2.2⟩
theorem cb20 : CB 2 2 0 := ⟨0, by decide, by decide +kernel⟩
theorem cb21 : CB 2 2 1 := ⟨2, by decide, by decide +kernel⟩
theorem M3.CB.fr {m : M3} (h : m.CB 2 12) (i : Nat) : (m.fr i).CB 2 14 := by
 have o : ∀ i, (G3.one.row i).CB 2 2 := fun i => by
  unfold G3.row; split
  ·exact ⟨cb21, cb20, cb20⟩
  ·split
   ·exact ⟨cb20, cb21, cb20⟩
   ·exact ⟨cb20, cb20, cb21⟩
 have r : (m.g.row i).CB 2 12 := by
  unfold G3.row; split
  ·exact h.1
  ·split
   ·exact h.2.1
   ·exact h.2.2.1
 exact r.sub (o i)
theorem M3.CB.rbs {m : M3} (h : m.CB 2 12) (w n : Nat) : RBs 2 3 n (wideM w m.fF fun i _ => m.fy i) := fun i _ => by
 refine ⟨2, by decide, by decide, fun j _ => ?_⟩
 unfold wideM
 split
 ·obtain ⟨u, h1, h2⟩ := (h.fr i).at' j
  exact ⟨u, Nat.le_trans h1 (by decide), h2⟩
 ·obtain ⟨u, h1, h2⟩ := (h.2.2.2.at' i).neg
  exact ⟨u, Nat.le_trans h1 (by decide), h2⟩
theorem M3.CB.rbF {m : M3} (h : m.CB 2 12) (n : Nat) : RBs 2 3 n m.fF := fun i _ => by
 refine ⟨2, by decide, by decide, fun j _ => ?_⟩
 obtain ⟨u, h1, h2⟩ := (h.fr i).at' j
 exact ⟨u, Nat.le_trans h1 (by decide), h2⟩
theorem M3.CB.rd {m : M3} (h : m.CB 2 12) : m.rd 10 := ⟨⟨h.1.rd (by decide) (by decide) (by decide), h.2.1.rd (by decide) (by decide) (by decide), h.2.2.1.rd (by decide) (by decide) (by decide)⟩, h.2.2.2.rd (by decide) (by decide) (by decide)⟩
theorem Pl.mcb (p : Pl) : p.m.CB 2 12 := ⟨p.cb 0, p.cb 3, p.cb 6, p.cb 9⟩
theorem Tryz.lFixed (m : M3) (h : m.CB 2 12) : Con Tryz.prog Tryz.L 14 [.agg m.L] (fixR (redM 3 (wideM 3 m.fF fun i _ => m.fy i) 3) (redM 3 m.fF 3)) :=
 Tryz.aFixed m 3 rfl (M3.rd_mono h.rd (by decide)) (h.rbs 3 4) (h.rbF 3)
/-! the quarter turn's fixed places -/
theorem turn_S : (redM 3 (wideM 3 turnM.fF fun i _ => turnM.fy i) 3).lead = [0, 1] := by decide +kernel
theorem turn_S0 : (redM 3 (wideM 3 turnM.fF fun i _ => turnM.fy i) 3).F 2 3 = 0 := by decide +kernel
theorem turn_P : solV (redM 3 (wideM 3 turnM.fF fun i _ => turnM.fy i) 3) 3 0 = 1 ∧ solV (redM 3 (wideM 3 turnM.fF fun i _ => turnM.fy i) 3) 3 1 = 1 ∧ solV (redM 3 (wideM 3 turnM.fF fun i _ => turnM.fy i) 3) 3 2 = 0 := by decide +kernel
theorem turn_K : (freeC (redM 3 turnM.fF 3).lead 3).length = 1 ∧ kerM (redM 3 turnM.fF 3) 3 0 0 = 0 ∧ kerM (redM 3 turnM.fF 3) 3 0 1 = 0 ∧ kerM (redM 3 turnM.fF 3) 3 0 2 = 1 := by decide +kernel
theorem turn_cb : turnM.CB 2 12 := by
 have z : CB 2 12 0 := cb20.mono (by decide)
 have o : CB 2 12 1 := cb21.mono (by decide)
 exact ⟨⟨z, ⟨-2, by decide, by decide +kernel⟩, z⟩, ⟨o, z, z⟩, ⟨z, z, o⟩, ⟨⟨4, by decide, by decide +kernel⟩, z, z⟩⟩
theorem Tryz.lturnFixed : Con Tryz.prog Tryz.L 14 [.agg turnM.L] (.tup [.agg (V3.L ⟨1, 1, 0⟩), .sl 1 (V3.L ⟨0, 0, 1⟩), .bool true, .int .i64 0]) := by
 have h := Tryz.lFixed turnM turn_cb
 have hS := turn_S; have hS0 := turn_S0; obtain ⟨p0, p1, p2⟩ := turn_P; obtain ⟨k0, k1, k2, k3⟩ := turn_K
 generalize redM 3 (wideM 3 turnM.fF fun i _ => turnM.fy i) 3 = S at *
 generalize redM 3 turnM.fF 3 = K at *
 have hok : okS 3 3 S := fun i h1 h2 => by
  rw [hS] at h1
  obtain rfl : i = 2 := by simp at h1; omega
  exact hS0
 rw [show fixR S K = _ from if_pos hok, k0] at h
 have e1 : V3.of (solV S 3) = ⟨1, 1, 0⟩ := by unfold V3.of; rw [p0, p1, p2]
 have e2 : fixK K 1 = V3.L ⟨0, 0, 1⟩ := by
  rw [fixK_succ]
  have : V3.of (kerM K 3 0) = ⟨0, 0, 1⟩ := by unfold V3.of; rw [k1, k2, k3]
  rw [this]
  rfl
 rw [e1, e2] at h
 exact h
def shearM : M3 := ⟨shG ⟨1, 0, 0⟩ ⟨0, 0, 2⟩, V3.zero⟩
theorem V3.ext' {u v : V3} (h1 : u.x = v.x) (h2 : u.y = v.y) (h3 : u.z = v.z) : u = v := by cases u; cases v; simp_all
set_option maxHeartbeats 4000000 in
theorem Tryz.lknown : Con Tryz.prog Tryz.L 13 [] (.bool true) := by
 have q : ∀ (x : Rat), rd x ≤ 2 → rd x ≤ 90 := fun x h => by omega
 have v1 := Tryz.lvecN 1 0 0 ⟨1, 0, 0⟩ (by decide) (by decide) (by decide) (by decide +kernel) (by decide +kernel) (by decide +kernel)
 have v2 := Tryz.lvecN 0 0 2 ⟨0, 0, 2⟩ (by decide) (by decide) (by decide) (by decide +kernel) (by decide +kernel) (by decide +kernel)
 have v3 := Tryz.lvecN 3 4 5 ⟨3, 4, 5⟩ (by decide) (by decide) (by decide) (by decide +kernel) (by decide +kernel) (by decide +kernel)
 have v4 := Tryz.lvecN 3 4 11 ⟨3, 4, 11⟩ (by decide) (by decide) (by decide) (by decide +kernel) (by decide +kernel) (by decide +kernel)
 have v5 := Tryz.lvecN 1 1 0 ⟨1, 1, 0⟩ (by decide) (by decide) (by decide) (by decide +kernel) (by decide +kernel) (by decide +kernel)
 have v6 := Tryz.lvecN 0 0 1 ⟨0, 0, 1⟩ (by decide) (by decide) (by decide) (by decide +kernel) (by decide +kernel) (by decide +kernel)
 have v7 := Tryz.lvecN 0 (-1) 0 ⟨0, -1, 0⟩ (by decide) (by decide) (by decide) (by decide +kernel) (by decide +kernel) (by decide +kernel)
 have sh : Con Tryz.prog Tryz.L 28 [.agg (V3.L ⟨1, 0, 0⟩), .agg (V3.L ⟨0, 0, 2⟩)] (.tup [.agg shearM.L, .int .i64 0]) := Tryz.aShear ⟨1, 0, 0⟩ ⟨0, 0, 2⟩ ⟨by decide +kernel, by decide +kernel, by decide +kernel⟩ ⟨by decide +kernel, by decide +kernel, by decide +kernel⟩ (by decide +kernel)
 have hA : (shearM.g.app ⟨3, 4, 5⟩).add shearM.s = ⟨3, 4, 11⟩ := V3.ext' (by decide +kernel) (by decide +kernel) (by decide +kernel)
 have ap := Tryz.aApply shearM ⟨3, 4, 5⟩ ⟨⟨⟨by decide +kernel, by decide +kernel, by decide +kernel⟩, ⟨by decide +kernel, by decide +kernel, by decide +kernel⟩, ⟨by decide +kernel, by decide +kernel, by decide +kernel⟩⟩, ⟨by decide +kernel, by decide +kernel, by decide +kernel⟩⟩ ⟨by decide +kernel, by decide +kernel, by decide +kernel⟩ (by rw [hA]; exact ⟨by decide +kernel, by decide +kernel, by decide +kernel⟩)
 rw [hA] at ap
 have tu := Tryz.lturn
 have fi := Tryz.lturnFixed
 have hB : turnM.g.tr.app ⟨1, 0, 0⟩ = ⟨0, -1, 0⟩ := V3.ext' (by decide +kernel) (by decide +kernel) (by decide +kernel)
 have hC : (0 : Rat) - V3.dot ⟨1, 0, 0⟩ turnM.s = -2 := by decide +kernel
 have pu := Tryz.aPull turnM ⟨1, 0, 0⟩ 0 (M3.rd_mono turn_cb.rd (by decide)) ⟨by decide +kernel, by decide +kernel, by decide +kernel⟩ (by decide +kernel) (fun h => absurd h.1 (by decide +kernel)) (by rw [hB]; exact fun h => absurd h.2.1 (by decide +kernel)) (by rw [hB]; exact ⟨by decide +kernel, by decide +kernel, by decide +kernel⟩) (by rw [hC]; decide +kernel)
 rw [hB, hC] at pu
 have r2 : rt (-2) = [45, 50] := by decide +kernel
 generalize turnM = T at *
 generalize shearM = M at *
 refine rule13 Tryz.hL rfl rfl rfl ?_
 simp only [V3.L, M3.L, pL, rt0, r2, pc13, rs13, oU, oC, evX, evY, evZ, forall_const, implies_true, initE, stepF, D.clean, mvF, moF, tkF, shF, ariF, ciF, catF, scF, ebF, eqF, eqOk, eqPr, enF, notF, ngF, cvF, csF, csbF, lenF, lenSF, ixF, iaF, PX.slot, iaAF, faF, ldF, D.mem, stF, bxF, mkSF, boundF, fldF, ixAF, mmF2, D.plain, D.isPure, optAll, D.dull, callVF, splice, D.cells, D.one, sets, resT, D.flat, D.flat0, D.simple, Nat.reduceBNe, Nat.reduceLT, reduceIte, Nat.reduceEqDiff, Nat.reduceAdd, Nat.reduceMul, Nat.reduceSub, Nat.reduceLeDiff, Int.reduceToNat, Int.reduceLT, Int.reduceLE, Int.reduceEq, Int.reduceNeg, Int.reduceSub, Int.reduceAdd, Int.reduceMul, stG_own] at v1 v2 v3 v4 v5 v6 v7 sh ap tu fi pu ⊢
 refine callF_of v1 ?_
 (refine ev ?_; try exact ⟨⟩)
 refine callF_of v2 ?_
 (refine ev ?_; try exact ⟨⟩)
 refine callF_of sh ?_
 (refine ev ?_; try exact ⟨⟩)
 refine callF_of v3 ?_
 (refine ev ?_; try exact ⟨⟩)
 refine callF_of ap ?_
 (refine ev ?_; try exact ⟨⟩)
 refine callF_of tu ?_
 (refine ev ?_; try exact ⟨⟩)
 refine callF_of fi ?_
 (refine ev ?_; try exact ⟨⟩)
 refine callF_of tu ?_
 (refine ev ?_; try exact ⟨⟩)
 refine callF_of v1 ?_
 (refine ev ?_; try exact ⟨⟩)
 refine callF_of pu ?_
 (refine ev ?_; try exact ⟨⟩)
 refine callF_of v4 ?_
 (refine ev ?_; try exact ⟨⟩)
 refine callF_of v5 ?_
 (refine ev ?_; try exact ⟨⟩)
 refine ⟨fun _ => ⟨by decide, ?_⟩, fun h => h rfl⟩
 refine callF_of v6 ?_
 (refine ev ?_; try exact ⟨⟩)
 refine callF_of v7 ?_
 (refine ev ?_; try exact ⟨⟩)
end Go.Proofs

/-
 AFFINE: numbers that are not right; AffineApplies; printed by tools/aff7.py. Own work.
-/
namespace Go.Proofs
open Go Go.Pi Go.RowKit Go.Shelf Go.Ar Go.Mx

theorem dd1 : dd 1 = [49] := by decide +kernel
theorem bad_1 (a : List UInt8) (ha : ∀ x ∈ a, x ≠ 47) : ¬okR (a ++ 47 :: [49]) := fun h => by
 obtain ⟨n, d, _, h2, _, _, h3, _⟩ := (okR_frac ha).1 h
 have e2 : d = 1 := dd_inj (h2.symm.trans dd1.symm)
 omega
theorem bad01 : ¬okR [48, 47, 49] := bad_1 [48] (by decide)
theorem app_cb {g : G3} {v : V3} {D E k l : Nat} (ha : g.a.CB D k) (hb : g.b.CB D k) (hc : g.c.CB D k) (hv : v.CB E l) : (g.app v).CB (D * E) (3 * (k * l)) := ⟨ha.dot hv, hb.dot hv, hc.dot hv⟩
theorem v3rd {v : V3} {D k : Nat} (h : v.CB D k) (l : Nat) (h0 : 0 < D := by decide) (h1 : D ≤ 1000000000 := by decide) (h2 : k ≤ 1000000000 := by decide) (h3 : 10 ≤ l := by decide) : v.rd l := V3.rd_mono (h.rd h0 h1 h2) h3
theorem v3sf {v : V3} {D k : Nat} (h : v.CB D k) (h0 : 0 < D := by decide) (h1 : D ≤ 1000000000 := by decide) (h2 : k ≤ 1000000000 := by decide) : v.SF := h.sf h0 h1 h2
theorem dok {u v : V3} {D E k l : Nat} (h : u.CB D k) (h' : v.CB E l) (h0 : 0 < D * E := by decide) (h1 : D * E ≤ 1000000000 := by decide) (h2 : 2 * (k * l) ≤ 1000000000 := by decide) : u.DotOk v := h.dotOk h' h0 h1 h2
end Go.Proofs

/-
 AFFINE: sizes of the inverse map; AffineInverts; printed by tools/aff8.py. Own work.
-/
namespace Go.Proofs
open Go Go.Pi Go.RowKit Go.Shelf Go.Ar Go.Mx

theorem xok {u v : V3} {D E k l : Nat} (h : u.CB D k) (h' : v.CB E l) (h0 : 0 < D * E := by decide) (h1 : D * E ≤ 1000000000 := by decide) (h2 : k * l ≤ 1000000000 := by decide) : u.CrossOk v := h.crossOk h' h0 h1 h2
end Go.Proofs

/-
 AFFINE: planes with a wrong number; what must not vanish; AffinePlanes; printed by tools/aff9.py. Own work.
-/
namespace Go.Proofs
open Go Go.Pi Go.RowKit Go.Shelf Go.Ar Go.Mx

/-- a plane whose offset is any text -/
def pT (v : V3) (b : List UInt8) : List D := [.str (rt v.x), .str (rt v.y), .str (rt v.z), .str b]
theorem V3.CB.col {D k : Nat} {g : G3} (ha : g.a.CB D k) (hb : g.b.CB D k) (hc : g.c.CB D k) (i : Nat) : (g.col i).CB D k := ⟨ha.at' i, hb.at' i, hc.at' i⟩
end Go.Proofs

/-
 AFFINE: what is kept: fixed places with the free directions, a plane pulled and pushed (plain, with the contracts). Own work.
-/
namespace Go.Proofs
open Go Go.Pi Go.RowKit Go.Shelf Go.Ar Go.Mx

/-- the place with the same multiple of the first directions -/
def accP (P : V3) (q : Rat) (K : Nat → V3) : Nat → V3
 | 0 => P
 | i + 1 => ⟨(accP P q K i).x + q * (K i).x, (accP P q K i).y + q * (K i).y, (accP P q K i).z + q * (K i).z⟩
/-- sizes -/
def V3.nb (k l : Nat) (v : V3) : Prop := NB k l v.x ∧ NB k l v.y ∧ NB k l v.z
theorem V3.nb_rd {k l : Nat} {v : V3} (h : v.nb k l) (h1 : l ≤ k) : v.rd (k + 1) := ⟨rd_of_nb (h.1.mono (Nat.le_refl _) h1), rd_of_nb (h.2.1.mono (Nat.le_refl _) h1), rd_of_nb (h.2.2.mono (Nat.le_refl _) h1)⟩
/-! a plane pulled and pushed -/
end Go.Proofs

/-
 AFFINE: what is known of Fixed, its sizes kept from the eye of the elaborator. Own work.
-/
namespace Go.Proofs
open Go Go.Pi Go.RowKit Go.Shelf Go.Ar Go.Mx

end Go.Proofs

/-
 AFFINE: AffineKeeps; printed by tools/aff10.py. Own work.
-/
namespace Go.Proofs
open Go Go.Pi Go.RowKit Go.Shelf Go.Ar Go.Mx

end Go.Proofs

/-
 AFFINE: the numbers of a vector and of a map, as the law lists them; which are long or wrong. Own work.
-/
namespace Go.Proofs
open Go Go.Pi Go.RowKit Go.Shelf Go.Ar Go.Mx

/-- the numbers of a map, as the law lists them -/
def TM.all (m : TM) : List D := m.s.L ++ m.a.L ++ m.b.L ++ m.c.L
end Go.Proofs

/-
 AFFINE: maps with wrong numbers; Equal; the reference's Identity; printed by tools/aff11.py. Own work.
-/
namespace Go.Proofs
open Go Go.Pi Go.RowKit Go.Shelf Go.Ar Go.Mx

def TM.same (m n : TM) : Prop := m.a.x = n.a.x ∧ m.a.y = n.a.y ∧ m.a.z = n.a.z ∧ m.b.x = n.b.x ∧ m.b.y = n.b.y ∧ m.b.z = n.b.z ∧ m.c.x = n.c.x ∧ m.c.y = n.c.y ∧ m.c.z = n.c.z ∧ m.s.x = n.s.x ∧ m.s.y = n.s.y ∧ m.s.z = n.s.z
end Go.Proofs

/-
 AFFINE: AffineMakes; printed by tools/aff13.py. Own work.
-/
namespace Go.Proofs
open Go Go.Pi Go.RowKit Go.Shelf Go.Ar Go.Mx

def T3.txl (v : T3) : List (List UInt8) := [v.x, v.y, v.z]
def T3.short (v : T3) : Prop := ∀ s ∈ v.txl, s.length ≤ 30
theorem T3.short_iff (v : T3) : v.short ↔ v.sz 30 := by
 unfold T3.short T3.txl T3.sz
 simp only [List.forall_mem_cons, List.not_mem_nil, false_implies, implies_true, and_true]
/-- right numbers of at most 30 bytes -/
theorem T3.val {v : T3} (h : v.ok) (hs : v.short) : ∃ u : V3, v = u.t ∧ u.rd 30 := by
 obtain ⟨⟨p, hp, _⟩, ⟨q, hq, _⟩, ⟨r, hr, _⟩⟩ := h
 obtain ⟨h1, h2, h3⟩ := v.short_iff.1 hs
 rw [hp] at h1; rw [hq] at h2; rw [hr] at h3
 refine ⟨⟨p, q, r⟩, ?_, len_rd (by decide) h1, len_rd (by decide) h2, len_rd (by decide) h3⟩
 cases v; simp only at hp hq hr; subst hp; subst hq; subst hr; rfl
/-- the rows of a shear, as the law writes them -/
def shW (n d : V3) : G3 := ⟨⟨d.x * n.x + 1, d.x * n.y, d.x * n.z⟩, ⟨d.y * n.x, d.y * n.y + 1, d.y * n.z⟩, ⟨d.z * n.x, d.z * n.y, d.z * n.z + 1⟩⟩
end Go.Proofs

/-
 AFFINE: grid.times; printed by tools/aff14.py. Own work.
-/
namespace Go.Proofs
open Go Go.Pi Go.RowKit Go.Shelf Go.Ar Go.Mx

set_option maxHeartbeats 2000000 in
theorem Tryz.atimesC0 {k l : Nat} (g h : G3) (hg : g.rd k) (hh : h.rd l) (hkl : k + l ≤ 1600) : Con Tryz.prog Tryz.L 136 [.int .i64 0, .pt g.L, .pt [.int .i64 0], .pt h.L] (.str (rt (g.a.dot (h.col 0)))) ∧ Con Tryz.prog Tryz.L 136 [.int .i64 1, .pt g.L, .pt [.int .i64 0], .pt h.L] (.str (rt (g.a.dot (h.col 1)))) ∧ Con Tryz.prog Tryz.L 136 [.int .i64 2, .pt g.L, .pt [.int .i64 0], .pt h.L] (.str (rt (g.a.dot (h.col 2)))) := by
 have ht := G3.rd_tr hh
 refine ⟨?_, ?_, ?_⟩
 ·have c := Tryz.acol0 h
  have d := Tryz.adot g.a (h.col 0) hg.1 ht.1 hkl
  refine rule136 Tryz.hL rfl rfl rfl ?_
  simp only [V3.L, G3.L, M3.L, pc136, rs136, oU, oC, evX, evY, evZ, forall_const, implies_true, initE, stepF, D.clean, mvF, moF, tkF, shF, ariF, ciF, catF, scF, ebF, eqF, eqOk, eqPr, enF, notF, ngF, cvF, csF, csbF, lenF, lenSF, ixF, iaF, PX.slot, iaAF, faF, ldF, D.mem, stF, bxF, mkSF, boundF, fldF, ixAF, mmF2, D.plain, D.isPure, optAll, D.dull, callVF, splice, D.cells, D.one, sets, resT, D.flat, D.flat0, D.simple, Nat.reduceBNe, Nat.reduceLT, reduceIte, Nat.reduceEqDiff, Nat.reduceAdd, Nat.reduceMul, Nat.reduceSub, Nat.reduceLeDiff, Int.reduceToNat, Int.reduceLT, Int.reduceLE, Int.reduceEq, Int.reduceNeg, Int.reduceSub, Int.reduceAdd, Int.reduceMul, stG_own] at c d ⊢
  repeat (refine ⟨by decide, ?_⟩)
  refine callF_of c ?_
  (refine ev ?_; try exact ⟨⟩)
  repeat (refine ⟨by decide, ?_⟩)
  refine callF_of d ?_
  (refine ev ?_; try exact ⟨⟩)
 ·have c := Tryz.acol1 h
  have d := Tryz.adot g.a (h.col 1) hg.1 ht.2.1 hkl
  refine rule136 Tryz.hL rfl rfl rfl ?_
  simp only [V3.L, G3.L, M3.L, pc136, rs136, oU, oC, evX, evY, evZ, forall_const, implies_true, initE, stepF, D.clean, mvF, moF, tkF, shF, ariF, ciF, catF, scF, ebF, eqF, eqOk, eqPr, enF, notF, ngF, cvF, csF, csbF, lenF, lenSF, ixF, iaF, PX.slot, iaAF, faF, ldF, D.mem, stF, bxF, mkSF, boundF, fldF, ixAF, mmF2, D.plain, D.isPure, optAll, D.dull, callVF, splice, D.cells, D.one, sets, resT, D.flat, D.flat0, D.simple, Nat.reduceBNe, Nat.reduceLT, reduceIte, Nat.reduceEqDiff, Nat.reduceAdd, Nat.reduceMul, Nat.reduceSub, Nat.reduceLeDiff, Int.reduceToNat, Int.reduceLT, Int.reduceLE, Int.reduceEq, Int.reduceNeg, Int.reduceSub, Int.reduceAdd, Int.reduceMul, stG_own] at c d ⊢
  repeat (refine ⟨by decide, ?_⟩)
  refine callF_of c ?_
  (refine ev ?_; try exact ⟨⟩)
  repeat (refine ⟨by decide, ?_⟩)
  refine callF_of d ?_
  (refine ev ?_; try exact ⟨⟩)
 ·have c := Tryz.acol2 h
  have d := Tryz.adot g.a (h.col 2) hg.1 ht.2.2 hkl
  refine rule136 Tryz.hL rfl rfl rfl ?_
  simp only [V3.L, G3.L, M3.L, pc136, rs136, oU, oC, evX, evY, evZ, forall_const, implies_true, initE, stepF, D.clean, mvF, moF, tkF, shF, ariF, ciF, catF, scF, ebF, eqF, eqOk, eqPr, enF, notF, ngF, cvF, csF, csbF, lenF, lenSF, ixF, iaF, PX.slot, iaAF, faF, ldF, D.mem, stF, bxF, mkSF, boundF, fldF, ixAF, mmF2, D.plain, D.isPure, optAll, D.dull, callVF, splice, D.cells, D.one, sets, resT, D.flat, D.flat0, D.simple, Nat.reduceBNe, Nat.reduceLT, reduceIte, Nat.reduceEqDiff, Nat.reduceAdd, Nat.reduceMul, Nat.reduceSub, Nat.reduceLeDiff, Int.reduceToNat, Int.reduceLT, Int.reduceLE, Int.reduceEq, Int.reduceNeg, Int.reduceSub, Int.reduceAdd, Int.reduceMul, stG_own] at c d ⊢
  repeat (refine ⟨by decide, ?_⟩)
  refine callF_of c ?_
  (refine ev ?_; try exact ⟨⟩)
  repeat (refine ⟨by decide, ?_⟩)
  refine callF_of d ?_
  (refine ev ?_; try exact ⟨⟩)
set_option maxHeartbeats 2000000 in
theorem Tryz.atimesC1 {k l : Nat} (g h : G3) (hg : g.rd k) (hh : h.rd l) (hkl : k + l ≤ 1600) : Con Tryz.prog Tryz.L 136 [.int .i64 0, .pt g.L, .pt [.int .i64 1], .pt h.L] (.str (rt (g.b.dot (h.col 0)))) ∧ Con Tryz.prog Tryz.L 136 [.int .i64 1, .pt g.L, .pt [.int .i64 1], .pt h.L] (.str (rt (g.b.dot (h.col 1)))) ∧ Con Tryz.prog Tryz.L 136 [.int .i64 2, .pt g.L, .pt [.int .i64 1], .pt h.L] (.str (rt (g.b.dot (h.col 2)))) := by
 have ht := G3.rd_tr hh
 refine ⟨?_, ?_, ?_⟩
 ·have c := Tryz.acol0 h
  have d := Tryz.adot g.b (h.col 0) hg.2.1 ht.1 hkl
  refine rule136 Tryz.hL rfl rfl rfl ?_
  simp only [V3.L, G3.L, M3.L, pc136, rs136, oU, oC, evX, evY, evZ, forall_const, implies_true, initE, stepF, D.clean, mvF, moF, tkF, shF, ariF, ciF, catF, scF, ebF, eqF, eqOk, eqPr, enF, notF, ngF, cvF, csF, csbF, lenF, lenSF, ixF, iaF, PX.slot, iaAF, faF, ldF, D.mem, stF, bxF, mkSF, boundF, fldF, ixAF, mmF2, D.plain, D.isPure, optAll, D.dull, callVF, splice, D.cells, D.one, sets, resT, D.flat, D.flat0, D.simple, Nat.reduceBNe, Nat.reduceLT, reduceIte, Nat.reduceEqDiff, Nat.reduceAdd, Nat.reduceMul, Nat.reduceSub, Nat.reduceLeDiff, Int.reduceToNat, Int.reduceLT, Int.reduceLE, Int.reduceEq, Int.reduceNeg, Int.reduceSub, Int.reduceAdd, Int.reduceMul, stG_own] at c d ⊢
  repeat (refine ⟨by decide, ?_⟩)
  refine callF_of c ?_
  (refine ev ?_; try exact ⟨⟩)
  repeat (refine ⟨by decide, ?_⟩)
  refine callF_of d ?_
  (refine ev ?_; try exact ⟨⟩)
 ·have c := Tryz.acol1 h
  have d := Tryz.adot g.b (h.col 1) hg.2.1 ht.2.1 hkl
  refine rule136 Tryz.hL rfl rfl rfl ?_
  simp only [V3.L, G3.L, M3.L, pc136, rs136, oU, oC, evX, evY, evZ, forall_const, implies_true, initE, stepF, D.clean, mvF, moF, tkF, shF, ariF, ciF, catF, scF, ebF, eqF, eqOk, eqPr, enF, notF, ngF, cvF, csF, csbF, lenF, lenSF, ixF, iaF, PX.slot, iaAF, faF, ldF, D.mem, stF, bxF, mkSF, boundF, fldF, ixAF, mmF2, D.plain, D.isPure, optAll, D.dull, callVF, splice, D.cells, D.one, sets, resT, D.flat, D.flat0, D.simple, Nat.reduceBNe, Nat.reduceLT, reduceIte, Nat.reduceEqDiff, Nat.reduceAdd, Nat.reduceMul, Nat.reduceSub, Nat.reduceLeDiff, Int.reduceToNat, Int.reduceLT, Int.reduceLE, Int.reduceEq, Int.reduceNeg, Int.reduceSub, Int.reduceAdd, Int.reduceMul, stG_own] at c d ⊢
  repeat (refine ⟨by decide, ?_⟩)
  refine callF_of c ?_
  (refine ev ?_; try exact ⟨⟩)
  repeat (refine ⟨by decide, ?_⟩)
  refine callF_of d ?_
  (refine ev ?_; try exact ⟨⟩)
 ·have c := Tryz.acol2 h
  have d := Tryz.adot g.b (h.col 2) hg.2.1 ht.2.2 hkl
  refine rule136 Tryz.hL rfl rfl rfl ?_
  simp only [V3.L, G3.L, M3.L, pc136, rs136, oU, oC, evX, evY, evZ, forall_const, implies_true, initE, stepF, D.clean, mvF, moF, tkF, shF, ariF, ciF, catF, scF, ebF, eqF, eqOk, eqPr, enF, notF, ngF, cvF, csF, csbF, lenF, lenSF, ixF, iaF, PX.slot, iaAF, faF, ldF, D.mem, stF, bxF, mkSF, boundF, fldF, ixAF, mmF2, D.plain, D.isPure, optAll, D.dull, callVF, splice, D.cells, D.one, sets, resT, D.flat, D.flat0, D.simple, Nat.reduceBNe, Nat.reduceLT, reduceIte, Nat.reduceEqDiff, Nat.reduceAdd, Nat.reduceMul, Nat.reduceSub, Nat.reduceLeDiff, Int.reduceToNat, Int.reduceLT, Int.reduceLE, Int.reduceEq, Int.reduceNeg, Int.reduceSub, Int.reduceAdd, Int.reduceMul, stG_own] at c d ⊢
  repeat (refine ⟨by decide, ?_⟩)
  refine callF_of c ?_
  (refine ev ?_; try exact ⟨⟩)
  repeat (refine ⟨by decide, ?_⟩)
  refine callF_of d ?_
  (refine ev ?_; try exact ⟨⟩)
set_option maxHeartbeats 2000000 in
theorem Tryz.atimesC2 {k l : Nat} (g h : G3) (hg : g.rd k) (hh : h.rd l) (hkl : k + l ≤ 1600) : Con Tryz.prog Tryz.L 136 [.int .i64 0, .pt g.L, .pt [.int .i64 2], .pt h.L] (.str (rt (g.c.dot (h.col 0)))) ∧ Con Tryz.prog Tryz.L 136 [.int .i64 1, .pt g.L, .pt [.int .i64 2], .pt h.L] (.str (rt (g.c.dot (h.col 1)))) ∧ Con Tryz.prog Tryz.L 136 [.int .i64 2, .pt g.L, .pt [.int .i64 2], .pt h.L] (.str (rt (g.c.dot (h.col 2)))) := by
 have ht := G3.rd_tr hh
 refine ⟨?_, ?_, ?_⟩
 ·have c := Tryz.acol0 h
  have d := Tryz.adot g.c (h.col 0) hg.2.2 ht.1 hkl
  refine rule136 Tryz.hL rfl rfl rfl ?_
  simp only [V3.L, G3.L, M3.L, pc136, rs136, oU, oC, evX, evY, evZ, forall_const, implies_true, initE, stepF, D.clean, mvF, moF, tkF, shF, ariF, ciF, catF, scF, ebF, eqF, eqOk, eqPr, enF, notF, ngF, cvF, csF, csbF, lenF, lenSF, ixF, iaF, PX.slot, iaAF, faF, ldF, D.mem, stF, bxF, mkSF, boundF, fldF, ixAF, mmF2, D.plain, D.isPure, optAll, D.dull, callVF, splice, D.cells, D.one, sets, resT, D.flat, D.flat0, D.simple, Nat.reduceBNe, Nat.reduceLT, reduceIte, Nat.reduceEqDiff, Nat.reduceAdd, Nat.reduceMul, Nat.reduceSub, Nat.reduceLeDiff, Int.reduceToNat, Int.reduceLT, Int.reduceLE, Int.reduceEq, Int.reduceNeg, Int.reduceSub, Int.reduceAdd, Int.reduceMul, stG_own] at c d ⊢
  repeat (refine ⟨by decide, ?_⟩)
  refine callF_of c ?_
  (refine ev ?_; try exact ⟨⟩)
  repeat (refine ⟨by decide, ?_⟩)
  refine callF_of d ?_
  (refine ev ?_; try exact ⟨⟩)
 ·have c := Tryz.acol1 h
  have d := Tryz.adot g.c (h.col 1) hg.2.2 ht.2.1 hkl
  refine rule136 Tryz.hL rfl rfl rfl ?_
  simp only [V3.L, G3.L, M3.L, pc136, rs136, oU, oC, evX, evY, evZ, forall_const, implies_true, initE, stepF, D.clean, mvF, moF, tkF, shF, ariF, ciF, catF, scF, ebF, eqF, eqOk, eqPr, enF, notF, ngF, cvF, csF, csbF, lenF, lenSF, ixF, iaF, PX.slot, iaAF, faF, ldF, D.mem, stF, bxF, mkSF, boundF, fldF, ixAF, mmF2, D.plain, D.isPure, optAll, D.dull, callVF, splice, D.cells, D.one, sets, resT, D.flat, D.flat0, D.simple, Nat.reduceBNe, Nat.reduceLT, reduceIte, Nat.reduceEqDiff, Nat.reduceAdd, Nat.reduceMul, Nat.reduceSub, Nat.reduceLeDiff, Int.reduceToNat, Int.reduceLT, Int.reduceLE, Int.reduceEq, Int.reduceNeg, Int.reduceSub, Int.reduceAdd, Int.reduceMul, stG_own] at c d ⊢
  repeat (refine ⟨by decide, ?_⟩)
  refine callF_of c ?_
  (refine ev ?_; try exact ⟨⟩)
  repeat (refine ⟨by decide, ?_⟩)
  refine callF_of d ?_
  (refine ev ?_; try exact ⟨⟩)
 ·have c := Tryz.acol2 h
  have d := Tryz.adot g.c (h.col 2) hg.2.2 ht.2.2 hkl
  refine rule136 Tryz.hL rfl rfl rfl ?_
  simp only [V3.L, G3.L, M3.L, pc136, rs136, oU, oC, evX, evY, evZ, forall_const, implies_true, initE, stepF, D.clean, mvF, moF, tkF, shF, ariF, ciF, catF, scF, ebF, eqF, eqOk, eqPr, enF, notF, ngF, cvF, csF, csbF, lenF, lenSF, ixF, iaF, PX.slot, iaAF, faF, ldF, D.mem, stF, bxF, mkSF, boundF, fldF, ixAF, mmF2, D.plain, D.isPure, optAll, D.dull, callVF, splice, D.cells, D.one, sets, resT, D.flat, D.flat0, D.simple, Nat.reduceBNe, Nat.reduceLT, reduceIte, Nat.reduceEqDiff, Nat.reduceAdd, Nat.reduceMul, Nat.reduceSub, Nat.reduceLeDiff, Int.reduceToNat, Int.reduceLT, Int.reduceLE, Int.reduceEq, Int.reduceNeg, Int.reduceSub, Int.reduceAdd, Int.reduceMul, stG_own] at c d ⊢
  repeat (refine ⟨by decide, ?_⟩)
  refine callF_of c ?_
  (refine ev ?_; try exact ⟨⟩)
  repeat (refine ⟨by decide, ?_⟩)
  refine callF_of d ?_
  (refine ev ?_; try exact ⟨⟩)
set_option maxRecDepth 100000 in
set_option maxHeartbeats 8000000 in
theorem Tryz.agtimes {k l : Nat} (g h : G3) (hg : g.rd k) (hh : h.rd l) (hkl : k + l ≤ 1600) : Con Tryz.prog Tryz.L 92 [.agg g.L, .agg h.L] (.agg (g.mul h).L) := by
 have e0 := Tryz.aeach 136 [.pt g.L, .pt [.int .i64 0], .pt h.L] ⟨g.a.dot (h.col 0), g.a.dot (h.col 1), g.a.dot (h.col 2)⟩ rfl (Tryz.atimesC0 g h hg hh hkl)
 have e1 := Tryz.aeach 136 [.pt g.L, .pt [.int .i64 1], .pt h.L] ⟨g.b.dot (h.col 0), g.b.dot (h.col 1), g.b.dot (h.col 2)⟩ rfl (Tryz.atimesC1 g h hg hh hkl)
 have e2 := Tryz.aeach 136 [.pt g.L, .pt [.int .i64 2], .pt h.L] ⟨g.c.dot (h.col 0), g.c.dot (h.col 1), g.c.dot (h.col 2)⟩ rfl (Tryz.atimesC2 g h hg hh hkl)
 refine rule92 Tryz.hL rfl rfl rfl ?_
 simp only [V3.L, G3.L, M3.L, G3.mul, pc92, rs92, oU, oC, evX, evY, evZ, forall_const, implies_true, initE, stepF, D.clean, mvF, moF, tkF, shF, ariF, ciF, catF, scF, ebF, eqF, eqOk, eqPr, enF, notF, ngF, cvF, csF, csbF, lenF, lenSF, ixF, iaF, PX.slot, iaAF, faF, ldF, D.mem, stF, bxF, mkSF, boundF, fldF, ixAF, mmF2, D.plain, D.isPure, optAll, D.dull, callVF, splice, D.cells, D.one, sets, resT, D.flat, D.flat0, D.simple, Nat.reduceBNe, Nat.reduceLT, reduceIte, Nat.reduceEqDiff, Nat.reduceAdd, Nat.reduceMul, Nat.reduceSub, Nat.reduceLeDiff, Int.reduceToNat, Int.reduceLT, Int.reduceLE, Int.reduceEq, Int.reduceNeg, Int.reduceSub, Int.reduceAdd, Int.reduceMul, stG_own] at e0 e1 e2 ⊢
 refine loopF_of (fun E => ∃ (w : List D) (b : Bool) (i : Int), ((i = 0 ∧ b = true ∧ w = [.str [], .str [], .str [], .str [], .str [], .str [], .str [], .str [], .str []]) ∨ (i = 1 ∧ b = false ∧ w = [.str (rt (g.a.dot (h.col 0))), .str (rt (g.a.dot (h.col 1))), .str (rt (g.a.dot (h.col 2))), .str [], .str [], .str [], .str [], .str [], .str []]) ∨ (i = 2 ∧ b = false ∧ w = [.str (rt (g.a.dot (h.col 0))), .str (rt (g.a.dot (h.col 1))), .str (rt (g.a.dot (h.col 2))), .str (rt (g.b.dot (h.col 0))), .str (rt (g.b.dot (h.col 1))), .str (rt (g.b.dot (h.col 2))), .str [], .str [], .str []]) ∨ (i = 3 ∧ b = false ∧ w = [.str (rt (g.a.dot (h.col 0))), .str (rt (g.a.dot (h.col 1))), .str (rt (g.a.dot (h.col 2))), .str (rt (g.b.dot (h.col 0))), .str (rt (g.b.dot (h.col 1))), .str (rt (g.b.dot (h.col 2))), .str (rt (g.c.dot (h.col 0))), .str (rt (g.c.dot (h.col 1))), .str (rt (g.c.dot (h.col 2)))])) ∧ E = [(2, .box b g.L), (3, .box b h.L), (4, .box true [.str [], .str [], .str [], .str [], .str [], .str [], .str [], .str [], .str []]), (5, .box true w), (7, .int .i64 i)])
  (fun E => match lk E 7 with | .int _ i => (3 - i).toNat | _ => 0) ⟨_, _, _, .inl ⟨rfl, rfl, rfl⟩, by simp [G3.L]⟩ ?_
 rintro _ ⟨w, b, i, hw, rfl⟩
 rcases hw with ⟨rfl, rfl, rfl⟩ | ⟨rfl, rfl, rfl⟩ | ⟨rfl, rfl, rfl⟩ | ⟨rfl, rfl, rfl⟩
 ·simp only [G3.L, evX, evY, evZ, forall_const, implies_true, initE, stepF, D.clean, mvF, moF, tkF, shF, ariF, ciF, catF, scF, ebF, eqF, eqOk, eqPr, enF, notF, ngF, cvF, csF, csbF, lenF, lenSF, ixF, iaF, PX.slot, iaAF, faF, ldF, D.mem, stF, bxF, mkSF, boundF, fldF, ixAF, mmF2, D.plain, D.isPure, optAll, D.dull, callVF, splice, D.cells, D.one, sets, resT, D.flat, D.flat0, D.simple, Nat.reduceBNe, Nat.reduceLT, reduceIte, Nat.reduceEqDiff, Nat.reduceAdd, Nat.reduceMul, Nat.reduceSub, Nat.reduceLeDiff, Int.reduceToNat, Int.reduceLT, Int.reduceLE, Int.reduceEq, Int.reduceNeg, Int.reduceSub, Int.reduceAdd, Int.reduceMul, stG_own]
  repeat (refine ⟨by decide, ?_⟩)
  refine callF_of e0 ?_
  (refine ev ?_; try exact ⟨⟩)
  repeat (refine ⟨by decide, ?_⟩)
  exact ⟨_, _, _, .inr (.inl ⟨rfl, rfl, rfl⟩), by simp [G3.L]⟩
 ·simp only [G3.L, evX, evY, evZ, forall_const, implies_true, initE, stepF, D.clean, mvF, moF, tkF, shF, ariF, ciF, catF, scF, ebF, eqF, eqOk, eqPr, enF, notF, ngF, cvF, csF, csbF, lenF, lenSF, ixF, iaF, PX.slot, iaAF, faF, ldF, D.mem, stF, bxF, mkSF, boundF, fldF, ixAF, mmF2, D.plain, D.isPure, optAll, D.dull, callVF, splice, D.cells, D.one, sets, resT, D.flat, D.flat0, D.simple, Nat.reduceBNe, Nat.reduceLT, reduceIte, Nat.reduceEqDiff, Nat.reduceAdd, Nat.reduceMul, Nat.reduceSub, Nat.reduceLeDiff, Int.reduceToNat, Int.reduceLT, Int.reduceLE, Int.reduceEq, Int.reduceNeg, Int.reduceSub, Int.reduceAdd, Int.reduceMul, stG_own]
  repeat (refine ⟨by decide, ?_⟩)
  refine callF_of e1 ?_
  (refine ev ?_; try exact ⟨⟩)
  repeat (refine ⟨by decide, ?_⟩)
  exact ⟨_, _, _, .inr (.inr (.inl ⟨rfl, rfl, rfl⟩)), by simp [G3.L]⟩
 ·simp only [G3.L, evX, evY, evZ, forall_const, implies_true, initE, stepF, D.clean, mvF, moF, tkF, shF, ariF, ciF, catF, scF, ebF, eqF, eqOk, eqPr, enF, notF, ngF, cvF, csF, csbF, lenF, lenSF, ixF, iaF, PX.slot, iaAF, faF, ldF, D.mem, stF, bxF, mkSF, boundF, fldF, ixAF, mmF2, D.plain, D.isPure, optAll, D.dull, callVF, splice, D.cells, D.one, sets, resT, D.flat, D.flat0, D.simple, Nat.reduceBNe, Nat.reduceLT, reduceIte, Nat.reduceEqDiff, Nat.reduceAdd, Nat.reduceMul, Nat.reduceSub, Nat.reduceLeDiff, Int.reduceToNat, Int.reduceLT, Int.reduceLE, Int.reduceEq, Int.reduceNeg, Int.reduceSub, Int.reduceAdd, Int.reduceMul, stG_own]
  repeat (refine ⟨by decide, ?_⟩)
  refine callF_of e2 ?_
  (refine ev ?_; try exact ⟨⟩)
  repeat (refine ⟨by decide, ?_⟩)
  exact ⟨_, _, _, .inr (.inr (.inr (⟨rfl, rfl, rfl⟩))), by simp [G3.L]⟩
 ·simp only [G3.L, evX, evY, evZ, forall_const, implies_true, initE, stepF, D.clean, mvF, moF, tkF, shF, ariF, ciF, catF, scF, ebF, eqF, eqOk, eqPr, enF, notF, ngF, cvF, csF, csbF, lenF, lenSF, ixF, iaF, PX.slot, iaAF, faF, ldF, D.mem, stF, bxF, mkSF, boundF, fldF, ixAF, mmF2, D.plain, D.isPure, optAll, D.dull, callVF, splice, D.cells, D.one, sets, resT, D.flat, D.flat0, D.simple, Nat.reduceBNe, Nat.reduceLT, reduceIte, Nat.reduceEqDiff, Nat.reduceAdd, Nat.reduceMul, Nat.reduceSub, Nat.reduceLeDiff, Int.reduceToNat, Int.reduceLT, Int.reduceLE, Int.reduceEq, Int.reduceNeg, Int.reduceSub, Int.reduceAdd, Int.reduceMul, stG_own]
  all_goals rfl
end Go.Proofs

/-
 AFFINE: plain laws of maps: composing is associative, determinants multiply, the inverse. Own work.
-/
namespace Go.Proofs
open Go Go.Pi Go.RowKit Go.Shelf Go.Ar Go.Mx

theorem G3.ext' {g h : G3} (h1 : g.a = h.a) (h2 : g.b = h.b) (h3 : g.c = h.c) : g = h := by cases g; cases h; simp_all
theorem M3.ext' {m n : M3} (h1 : m.g = n.g) (h2 : m.s = n.s) : m = n := by cases m; cases n; simp_all
/-- a row of a product -/
def rowMul (u : V3) (h : G3) : V3 := ⟨u.dot (h.col 0), u.dot (h.col 1), u.dot (h.col 2)⟩
theorem rowMul_assoc (u : V3) (g h : G3) : rowMul (rowMul u g) h = rowMul u (g.mul h) := by
 obtain ⟨x, y, z⟩ := u
 obtain ⟨⟨a, b, c⟩, ⟨d, e, f⟩, ⟨p, q, r⟩⟩ := g
 obtain ⟨⟨a', b', c'⟩, ⟨d', e', f'⟩, ⟨p', q', r'⟩⟩ := h
 apply V3.ext'
 ·show (x * a + y * d + z * p) * a' + (x * b + y * e + z * q) * d' + (x * c + y * f + z * r) * p' = x * (a * a' + b * d' + c * p') + y * (d * a' + e * d' + f * p') + z * (p * a' + q * d' + r * p')
  grind
 ·show (x * a + y * d + z * p) * b' + (x * b + y * e + z * q) * e' + (x * c + y * f + z * r) * q' = x * (a * b' + b * e' + c * q') + y * (d * b' + e * e' + f * q') + z * (p * b' + q * e' + r * q')
  grind
 ·show (x * a + y * d + z * p) * c' + (x * b + y * e + z * q) * f' + (x * c + y * f + z * r) * r' = x * (a * c' + b * f' + c * r') + y * (d * c' + e * f' + f * r') + z * (p * c' + q * f' + r * r')
  grind
theorem mul_assoc3 (g h k : G3) : (g.mul h).mul k = g.mul (h.mul k) := G3.ext' (rowMul_assoc g.a h k) (rowMul_assoc g.b h k) (rowMul_assoc g.c h k)
end Go.Proofs

/-
 AFFINE: plain laws of the inverse. Own work.
-/
namespace Go.Proofs
open Go Go.Pi Go.RowKit Go.Shelf Go.Ar Go.Mx

theorem dot_mulk (u v : V3) (k : Rat) : u.dot (v.mul k) = k * u.dot v := by
 show u.x * (v.x * k) + u.y * (v.y * k) + u.z * (v.z * k) = k * (u.x * v.x + u.y * v.y + u.z * v.z)
 grind
theorem dot_cr1 (u v : V3) : u.dot (u.cross v) = 0 := by
 show u.x * (u.y * v.z - u.z * v.y) + u.y * (u.z * v.x - u.x * v.z) + u.z * (u.x * v.y - u.y * v.x) = 0
 grind
theorem dot_cr2 (u v : V3) : v.dot (u.cross v) = 0 := by
 show v.x * (u.y * v.z - u.z * v.y) + v.y * (u.z * v.x - u.x * v.z) + v.z * (u.x * v.y - u.y * v.x) = 0
 grind
theorem dot_cyc (u v w : V3) : v.dot (w.cross u) = u.dot (v.cross w) := by
 show v.x * (w.y * u.z - w.z * u.y) + v.y * (w.z * u.x - w.x * u.z) + v.z * (w.x * u.y - w.y * u.x) = u.x * (v.y * w.z - v.z * w.y) + u.y * (v.z * w.x - v.x * w.z) + u.z * (v.x * w.y - v.y * w.x)
 grind
theorem det_k {g : G3} (h0 : g.det ≠ 0) : (1 / g.det) * g.det = 1 := by
 rw [Rat.div_def, Rat.one_mul]; exact Rat.inv_mul_cancel _ h0
theorem mul_inv3 {g : G3} (h0 : g.det ≠ 0) : g.mul g.inv = G3.one := by
 have hk := det_k h0
 have c0 : g.inv.col 0 = (g.b.cross g.c).mul (1 / g.det) := rfl
 have c1 : g.inv.col 1 = (g.c.cross g.a).mul (1 / g.det) := rfl
 have c2 : g.inv.col 2 = (g.a.cross g.b).mul (1 / g.det) := rfl
 have e0 : g.a.dot (g.b.cross g.c) = g.det := rfl
 have e1 : g.b.dot (g.c.cross g.a) = g.det := dot_cyc g.a g.b g.c
 have e2 : g.c.dot (g.a.cross g.b) = g.det := by rw [dot_cyc g.b g.c g.a, e1]
 have row : ∀ u : V3, (⟨u.dot (g.inv.col 0), u.dot (g.inv.col 1), u.dot (g.inv.col 2)⟩ : V3) = ⟨(1 / g.det) * u.dot (g.b.cross g.c), (1 / g.det) * u.dot (g.c.cross g.a), (1 / g.det) * u.dot (g.a.cross g.b)⟩ := fun u => by
  rw [c0, c1, c2, dot_mulk, dot_mulk, dot_mulk]
 refine G3.ext' ((row g.a).trans ?_) ((row g.b).trans ?_) ((row g.c).trans ?_)
 ·rw [e0, hk, dot_cr2 g.c g.a, dot_cr1 g.a g.b, Rat.mul_zero]; rfl
 ·rw [e1, hk, dot_cr1 g.b g.c, dot_cr2 g.a g.b, Rat.mul_zero]; rfl
 ·rw [e2, hk, dot_cr2 g.b g.c, dot_cr1 g.c g.a, Rat.mul_zero]; rfl
theorem mul_one3 (g : G3) : g.mul G3.one = g := by
 have row : ∀ u : V3, (⟨u.dot (G3.one.col 0), u.dot (G3.one.col 1), u.dot (G3.one.col 2)⟩ : V3) = u := fun u => by
  apply V3.ext'
  ·show u.x * 1 + u.y * 0 + u.z * 0 = u.x; grind
  ·show u.x * 0 + u.y * 1 + u.z * 0 = u.y; grind
  ·show u.x * 0 + u.y * 0 + u.z * 1 = u.z; grind
 exact G3.ext' (row g.a) (row g.b) (row g.c)
end Go.Proofs

/-
 AFFINE: slices.Grow of a nil slice of vectors; Concat. Own work.
-/
namespace Go.Proofs
open Go Go.Pi Go.RowKit Go.Shelf Go.Ar Go.Mx

theorem cap_ltV {n : Nat} {t : Nat} (h : n ≤ 1000000) : n ≤ (Question.appendCap n 0 30).cut t ∧ (Question.appendCap n 0 30).cut t ≤ maxLen := by
 have e : (Question.appendCap n 0 30).cut t = n + t % (2 ^ 63 - n) := rfl
 have h1 : t % (2 ^ 63 - n) < 2 ^ 63 - n := Nat.mod_lt _ (by omega)
 rw [e]; unfold maxLen; omega

set_option maxRecDepth 100000 in
set_option maxHeartbeats 2000000 in
theorem Tryz.vgrow (n : Nat) (hn : n ≤ 1000000) (w : World) : Calls Tryz.prog 138 #[.slice none 0 0, .int .i64 n] w fun e w' => ∃ v, e = .returned v ∧ Below w.heap.size w w' ∧
  ((v = .slice none 0 0) ∨ ∃ cap arr, v = .slice (some ⟨w.heap.size, 0, none⟩) 0 cap ∧ w.heap.size < w'.heap.size ∧ w'.heap[w.heap.size]? = some (.cells arr 30 (0, 0)) ∧ cap ≤ maxLen ∧ arr.size = cap * 3) := by
 rcases Nat.eq_zero_or_pos n with h1 | h1
 ·subst h1
  go_enter Tryz.func138, Tryz.ntmps138
  go_wp2
  go_ret
  exact ⟨_, rfl, Below.refl _ _, .inl rfl⟩
 ·have hbytes : Tryz.t30.bytes = 48 := rfl
  have hnx := next0 h1
  go_enter Tryz.func138, Tryz.ntmps138
  go_wp2
  go_ret
  have hc := cap_ltV (t := w.tape w.drawn (Question.appendCap n 0 30)) hn
  generalize (Question.appendCap n 0 30).cut (w.tape w.drawn (Question.appendCap n 0 30)) = cap at hc
  refine ⟨.slice (some ⟨w.heap.size, 0, none⟩) 0 cap, rfl, ((Below.refl _ w).alloc (Nat.le_refl _) _).drew, .inr ⟨cap, rfl, ?_, (Builtin.zeroCells #[Value.string { data := #[] }, Value.string { data := #[] }, Value.string { data := #[] }] n ++ Builtin.zeroCells #[Value.string { data := #[] }, Value.string { data := #[] }, Value.string { data := #[] }] (cap - n)), World.alloc_heap_new _ _, hc.2, ?_⟩⟩
  ·show w.heap.size < (w.heap.push _).size
   rw [Array.size_push]; omega
  ·rw [Array.size_append, size_zeroCells, size_zeroCells, ← Nat.add_mul]
   rw [show n + (cap - n) = cap by omega]
   rfl

theorem Tryz.vgrowC {L : World → Prop} (n : Nat) (hn : n ≤ 1000000) : Con Tryz.prog L 138 [.sl 0 [.un], .int .i64 n] (.own true 30 0 []) := by
 refine ⟨⟨by kernel_rfl, rfl⟩, fun S w vs hS hL hv => ?_⟩
 obtain ⟨x, vs', rfl, h1, h2⟩ := hv.uncons
 obtain ⟨y, vs', rfl, h3, h4⟩ := h2.uncons
 have : vs' = [] := by cases vs' with | nil => rfl | cons _ _ => have := h4.1; simp at this
 subst this
 cases h3
 have hx : x = .slice none 0 0 := by
  generalize hd : D.sl 0 [.un] = d at h1
  cases h1 with
  | slN => rfl
  | sl n ds b off cap vs hl h1 hn hc hr h => cases hd; exact absurd (h1 .un (List.mem_singleton_self _)) (by simp [D.one])
  | _ => cases hd
 subst hx
 refine (Tryz.vgrow n hn w).mono ?_
 rintro e w' ⟨v, rfl, hb, h⟩
 rcases h with rfl | ⟨cap, arr, rfl, hs, hh, hc, ha⟩
 ·exact ⟨_, rfl, hb, none, fun b hb => (by cases hb), .inl ⟨rfl, rfl, rfl, rfl⟩⟩
 ·refine ⟨_, rfl, hb, some w.heap.size, fun b hb => (by cases hb; exact ⟨Nat.le_refl _, hs⟩), .inr ⟨w.heap.size, cap, arr, rfl, rfl, hh, Nat.zero_le _, hc, ?_, by simp, ?_, fun d hd => (by cases hd), ?_, fun h => (by cases h)⟩⟩
  ·rw [ha, show Tryz.prog.cellsOf 30 = 3 by kernel_rfl]
  ·have e0 : arr.toList.take (0 * Tryz.prog.cellsOf 30) = [] := by rw [Nat.zero_mul]; rfl
   rw [e0]; exact .nil
  ·rintro j (h | ⟨h1, h2, h3⟩)
   ·exact absurd (hS _ _ h) (Nat.lt_irrefl _)
   ·exact ⟨(h3 rfl).1, (h3 rfl).2⟩

set_option maxRecDepth 100000 in
theorem Tryz.vconcat (a b : List T3) (ha : a.length ≤ 1000) (hb : b.length ≤ 1000) : Con Tryz.prog Tryz.L 95 [.sl 2 [.sl a.length (tsD a), .sl b.length (tsD b)]] (.own true 30 (a.length + b.length) (tsD a ++ tsD b)) := by
 have la := tsD_len a
 have lb := tsD_len b
 generalize tsD a = x at *
 generalize tsD b = y at *
 generalize a.length = n at *
 generalize b.length = m at *
 refine rule95 Tryz.hL rfl rfl rfl ?_
 (simp only [pc95, rs95, oU, oC]; refine ev ?_; try exact ⟨⟩)
 refine loopF_of (fun E => ∃ k : Nat, k ≤ 2 ∧ E = [(0, .sl 2 [.sl n x, .sl m y]), (3, .int .i64 (if k = 0 then 0 else if k = 1 then (n : Int) else (n + m : Nat))), (9, .sl 2 [.sl n x, .sl m y]), (10, .int .i64 2), (11, .int .i64 k)])
  (fun E => match lk E 11 with | .int _ i => 2 - i.toNat | _ => 0) ⟨0, Nat.zero_le _, rfl⟩ ?_
 rintro _ ⟨k, hk, rfl⟩
 have hk3 : k = 0 ∨ k = 1 ∨ k = 2 := by omega
 rcases hk3 with rfl | rfl | rfl
 ·(refine ev ?_; try exact ⟨⟩)
  exact ⟨fun _ => ⟨by omega, by omega, fun h => by omega, fun _ => ⟨by omega, ⟨1, by omega, by rw [Int.zero_add]; rfl, rfl⟩, by omega⟩⟩, fun h => by omega⟩
 ·(refine ev ?_; try exact ⟨⟩)
  exact ⟨fun _ => ⟨by omega, by omega, fun h => by omega, fun _ => ⟨by omega, ⟨2, by omega, by rw [← Int.natCast_add]; rfl, rfl⟩, by omega⟩⟩, fun h => by omega⟩
 ·(refine ev ?_; try exact ⟨⟩)
  refine ⟨fun h => by omega, fun _ => ?_⟩
  refine callF_of (Tryz.vgrowC (n + m) (by omega)) ?_
  (refine ev ?_; try exact ⟨⟩)
  refine loopF_of (fun E => ∃ k : Nat, k ≤ 2 ∧ E = [(6, if k = 0 then .own true 30 0 [] else if k = 1 then .own true 30 n x else .own true 30 (n + m) (x ++ y)), (25, .sl 2 [.sl n x, .sl m y]), (26, .int .i64 2), (27, .int .i64 k)])
   (fun E => match lk E 27 with | .int _ i => 2 - i.toNat | _ => 0) ⟨0, Nat.zero_le _, rfl⟩ ?_
  rintro _ ⟨k, hk, rfl⟩
  have hk3 : k = 0 ∨ k = 1 ∨ k = 2 := by omega
  rcases hk3 with rfl | rfl | rfl
  ·(refine ev ?_; try exact ⟨⟩)
   exact ⟨fun _ => ⟨by omega, by omega, by omega, by omega, by omega, ⟨1, by omega, rfl, rfl⟩, by omega⟩, fun h => by omega⟩
  ·(refine ev ?_; try exact ⟨⟩)
   exact ⟨fun _ => ⟨by omega, by omega, by omega, by omega, by omega, ⟨2, by omega, rfl, rfl⟩, by omega⟩, fun h => by omega⟩
  ·(refine ev ?_; try exact ⟨⟩)
   exact fun h => by omega
end Go.Proofs

/-
 AFFINE: the map through four places (affine.Of), printed by tools/aff17.py. Own work.
-/
namespace Go.Proofs
open Go Go.Pi Go.RowKit Go.Shelf Go.Ar Go.Mx

/-- four places, and four of texts -/
def P4 (p q r s : V3) : List D := [.str (rt p.x), .str (rt p.y), .str (rt p.z), .str (rt q.x), .str (rt q.y), .str (rt q.z), .str (rt r.x), .str (rt r.y), .str (rt r.z), .str (rt s.x), .str (rt s.y), .str (rt s.z)]
def T4 (p q r s : T3) : List D := [.str p.x, .str p.y, .str p.z, .str q.x, .str q.y, .str q.z, .str r.x, .str r.y, .str r.z, .str s.x, .str s.y, .str s.z]
/-- the sides from the first place, as columns -/
def sidesG (p q r s : V3) : G3 := (G3.mk (q.sub p) (r.sub p) (s.sub p)).tr
set_option maxHeartbeats 4000000 in
theorem Tryz.asides {k : Nat} (p q r s : V3) (hp : p.rd k) (hq : q.rd k) (hr : r.rd k) (hs : s.rd k) (hk : k ≤ 5000) : Con Tryz.prog Tryz.L 96 [.agg (P4 p q r s)] (.agg (sidesG p q r s).L) := by
 have o0 := Tryz.aof p; have o1 := Tryz.aof q; have o2 := Tryz.aof r; have o3 := Tryz.aof s
 have s1 := Tryz.asub q p hq hp hk hk
 have s2 := Tryz.asub r p hr hp hk hk
 have s3 := Tryz.asub s p hs hp hk hk
 have tu : Con Tryz.prog Tryz.L 93 [.agg (G3.mk (q.sub p) (r.sub p) (s.sub p)).L] (.agg (sidesG p q r s).L) := Tryz.aturned (G3.mk (q.sub p) (r.sub p) (s.sub p))
 generalize sidesG p q r s = w at *
 generalize q.sub p = x at *
 generalize r.sub p = y at *
 generalize s.sub p = z at *
 refine rule96 Tryz.hL rfl rfl rfl ?_
 simp only [P4, V3.L, G3.L, pc96, rs96, oU, oC, evX, evY, evZ, forall_const, implies_true, initE, stepF, D.clean, mvF, moF, tkF, shF, ariF, ciF, catF, scF, ebF, eqF, eqOk, eqPr, enF, notF, ngF, cvF, csF, csbF, lenF, lenSF, ixF, iaF, PX.slot, iaAF, faF, ldF, D.mem, stF, bxF, mkSF, boundF, fldF, ixAF, mmF2, D.plain, D.isPure, optAll, D.dull, callVF, splice, D.cells, D.one, sets, resT, D.flat, D.flat0, D.simple, Nat.reduceBNe, Nat.reduceLT, reduceIte, Nat.reduceEqDiff, Nat.reduceAdd, Nat.reduceMul, Nat.reduceSub, Nat.reduceLeDiff, Int.reduceToNat, Int.reduceLT, Int.reduceLE, Int.reduceEq, Int.reduceNeg, Int.reduceSub, Int.reduceAdd, Int.reduceMul, stG_own] at o0 o1 o2 o3 s1 s2 s3 tu ⊢
 refine loopF_of (fun E => ∃ (v : List D) (i : Int), ((i = 0 ∧ v = [.str [], .str [], .str [], .str [], .str [], .str [], .str [], .str [], .str []]) ∨ (i = 1 ∧ v = [.str (rt x.x), .str (rt x.y), .str (rt x.z), .str [], .str [], .str [], .str [], .str [], .str []]) ∨ (i = 2 ∧ v = [.str (rt x.x), .str (rt x.y), .str (rt x.z), .str (rt y.x), .str (rt y.y), .str (rt y.z), .str [], .str [], .str []]) ∨ (i = 3 ∧ v = [.str (rt x.x), .str (rt x.y), .str (rt x.z), .str (rt y.x), .str (rt y.y), .str (rt y.z), .str (rt z.x), .str (rt z.y), .str (rt z.z)])) ∧ E = [(1, .box true [.str (rt p.x), .str (rt p.y), .str (rt p.z), .str (rt q.x), .str (rt q.y), .str (rt q.z), .str (rt r.x), .str (rt r.y), .str (rt r.z), .str (rt s.x), .str (rt s.y), .str (rt s.z)]), (2, .box true [.str [], .str [], .str [], .str [], .str [], .str [], .str [], .str [], .str []]), (3, .box true v), (5, .int .i64 i)])
  (fun E => match lk E 5 with | .int _ i => (3 - i).toNat | _ => 0) ⟨_, _, .inl ⟨rfl, rfl⟩, rfl⟩ ?_
 rintro _ ⟨v, i, hv, rfl⟩
 rcases hv with ⟨rfl, rfl⟩ | ⟨rfl, rfl⟩ | ⟨rfl, rfl⟩ | ⟨rfl, rfl⟩
 ·(refine ev ?_; try exact ⟨⟩)
  repeat (refine ⟨by decide, ?_⟩)
  refine callF_of o1 ?_
  (refine ev ?_; try exact ⟨⟩)
  repeat (refine ⟨by decide, ?_⟩)
  refine callF_of o0 ?_
  (refine ev ?_; try exact ⟨⟩)
  repeat (refine ⟨by decide, ?_⟩)
  refine callF_of s1 ?_
  (refine ev ?_; try exact ⟨⟩)
  repeat (refine ⟨by decide, ?_⟩)
  exact ⟨_, _, .inr (.inl ⟨rfl, rfl⟩), by simp⟩
 ·(refine ev ?_; try exact ⟨⟩)
  repeat (refine ⟨by decide, ?_⟩)
  refine callF_of o2 ?_
  (refine ev ?_; try exact ⟨⟩)
  repeat (refine ⟨by decide, ?_⟩)
  refine callF_of o0 ?_
  (refine ev ?_; try exact ⟨⟩)
  repeat (refine ⟨by decide, ?_⟩)
  refine callF_of s2 ?_
  (refine ev ?_; try exact ⟨⟩)
  repeat (refine ⟨by decide, ?_⟩)
  exact ⟨_, _, .inr (.inr (.inl ⟨rfl, rfl⟩)), by simp⟩
 ·(refine ev ?_; try exact ⟨⟩)
  repeat (refine ⟨by decide, ?_⟩)
  refine callF_of o3 ?_
  (refine ev ?_; try exact ⟨⟩)
  repeat (refine ⟨by decide, ?_⟩)
  refine callF_of o0 ?_
  (refine ev ?_; try exact ⟨⟩)
  repeat (refine ⟨by decide, ?_⟩)
  refine callF_of s3 ?_
  (refine ev ?_; try exact ⟨⟩)
  repeat (refine ⟨by decide, ?_⟩)
  exact ⟨_, _, .inr (.inr (.inr (⟨rfl, rfl⟩))), by simp⟩
 ·(refine ev ?_; try exact ⟨⟩)
  repeat (refine ⟨by decide, ?_⟩)
  refine callF_of tu ?_
  (refine ev ?_; try exact ⟨⟩)
  all_goals rfl
theorem fa8 {P : T3 → Prop} {a b c d e f g h : T3} : (∀ v ∈ [a, b, c, d, e, f, g, h], P v) ↔ P a ∧ P b ∧ P c ∧ P d ∧ P e ∧ P f ∧ P g ∧ P h := by
 simp only [List.forall_mem_cons, List.not_mem_nil, false_implies, implies_true, and_true]
/-- the first error of eight vectors -/
theorem Tryz.ofirst (a b c d e f g h : T3) (hs : ∀ v ∈ [a, b, c, d, e, f, g, h], v.sz 1000000) : Con Tryz.prog Tryz.L 95 [.sl 2 [.sl 4 (T4 a b c d), .sl 4 (T4 e f g h)]] (.own true 30 8 (T4 a b c d ++ T4 e f g h)) ∧
  Con Tryz.prog Tryz.L 74 [.sl 8 (T4 a b c d ++ T4 e f g h)] (.int .i64 (chk (a.ok ∧ b.ok ∧ c.ok ∧ d.ok ∧ e.ok ∧ f.ok ∧ g.ok ∧ h.ok))) := by
 refine ⟨Tryz.vconcat [a, b, c, d] [e, f, g, h] (by simp) (by simp), ?_⟩
 have := Tryz.tfirst [a, b, c, d, e, f, g, h] (by simp) hs
 rw [show chk (∀ v ∈ [a, b, c, d, e, f, g, h], v.ok) = chk (a.ok ∧ b.ok ∧ c.ok ∧ d.ok ∧ e.ok ∧ f.ok ∧ g.ok ∧ h.ok) from congrArg chk (propext fa8)] at this
 exact this
set_option maxHeartbeats 4000000 in
theorem Tryz.aOf2 (a b c d e f g h : T3) (hs : ∀ v ∈ [a, b, c, d, e, f, g, h], v.sz 1000000) (hb : ¬(a.ok ∧ b.ok ∧ c.ok ∧ d.ok ∧ e.ok ∧ f.ok ∧ g.ok ∧ h.ok)) : Con Tryz.prog Tryz.L 50 [.agg (T4 a b c d), .agg (T4 e f g h)] (.tup [.agg [.str [], .str [], .str [], .str [], .str [], .str [], .str [], .str [], .str [], .str [], .str [], .str []], .int .i64 2]) := by
 obtain ⟨c1, c2⟩ := Tryz.ofirst a b c d e f g h hs
 rw [chk_f hb] at c2
 refine rule50 Tryz.hL rfl rfl rfl ?_
 simp only [T4, List.cons_append, List.nil_append, pc50, rs50, oU, oC, evX, evY, evZ, forall_const, implies_true, initE, stepF, D.clean, mvF, moF, tkF, shF, ariF, ciF, catF, scF, ebF, eqF, eqOk, eqPr, enF, notF, ngF, cvF, csF, csbF, lenF, lenSF, ixF, iaF, PX.slot, iaAF, faF, ldF, D.mem, stF, bxF, mkSF, boundF, fldF, ixAF, mmF2, D.plain, D.isPure, optAll, D.dull, callVF, splice, D.cells, D.one, sets, resT, D.flat, D.flat0, D.simple, Nat.reduceBNe, Nat.reduceLT, reduceIte, Nat.reduceEqDiff, Nat.reduceAdd, Nat.reduceMul, Nat.reduceSub, Nat.reduceLeDiff, Int.reduceToNat, Int.reduceLT, Int.reduceLE, Int.reduceEq, Int.reduceNeg, Int.reduceSub, Int.reduceAdd, Int.reduceMul, stG_own] at c1 c2 ⊢
 repeat (refine ⟨by decide, ?_⟩)
 refine callF_of c1 ?_
 (refine ev ?_; try exact ⟨⟩)
 repeat (refine ⟨by decide, ?_⟩)
 refine callF_of c2 ?_
 (refine ev ?_; try exact ⟨⟩)
 all_goals rfl
set_option maxHeartbeats 4000000 in
theorem Tryz.aOf0 (p q r s p2 q2 r2 s2 : V3) (hp : p.rd 100) (hq : q.rd 100) (hr : r.rd 100) (hs : s.rd 100) (hp2 : p2.rd 100) (hq2 : q2.rd 100) (hr2 : r2.rd 100) (hs2 : s2.rd 100) (hA : (sidesG p q r s).rd 200) (h0 : (sidesG p q r s).det = 0) : Con Tryz.prog Tryz.L 50 [.agg (P4 p q r s), .agg (P4 p2 q2 r2 s2)] (.tup [.agg [.str [], .str [], .str [], .str [], .str [], .str [], .str [], .str [], .str [], .str [], .str [], .str []], .int .i64 18]) := by
 have sz : ∀ {v : V3}, v.rd 100 → v.t.sz 1000000 := fun h => V3.t_sz h (by decide)
 have ok : ∀ {v : V3}, v.rd 100 → v.t.ok := fun h => (V3.t_ok _).2 (V3.rd_mono h (by decide))
 obtain ⟨c1, c2⟩ := Tryz.ofirst p.t q.t r.t s.t p2.t q2.t r2.t s2.t (fa8.2 ⟨sz hp, sz hq, sz hr, sz hs, sz hp2, sz hq2, sz hr2, sz hs2⟩)
 rw [chk_t ⟨ok hp, ok hq, ok hr, ok hs, ok hp2, ok hq2, ok hr2, ok hs2⟩] at c2
 have sa := Tryz.asides p q r s hp hq hr hs (by decide)
 have dt := Tryz.adet (sidesG p q r s) hA (by decide)
 rw [rt_zero.2 h0] at dt
 generalize sidesG p q r s = A at *
 refine rule50 Tryz.hL rfl rfl rfl ?_
 simp only [P4, T4, V3.t, G3.L, List.cons_append, List.nil_append, pc50, rs50, oU, oC, evX, evY, evZ, forall_const, implies_true, initE, stepF, D.clean, mvF, moF, tkF, shF, ariF, ciF, catF, scF, ebF, eqF, eqOk, eqPr, enF, notF, ngF, cvF, csF, csbF, lenF, lenSF, ixF, iaF, PX.slot, iaAF, faF, ldF, D.mem, stF, bxF, mkSF, boundF, fldF, ixAF, mmF2, D.plain, D.isPure, optAll, D.dull, callVF, splice, D.cells, D.one, sets, resT, D.flat, D.flat0, D.simple, Nat.reduceBNe, Nat.reduceLT, reduceIte, Nat.reduceEqDiff, Nat.reduceAdd, Nat.reduceMul, Nat.reduceSub, Nat.reduceLeDiff, Int.reduceToNat, Int.reduceLT, Int.reduceLE, Int.reduceEq, Int.reduceNeg, Int.reduceSub, Int.reduceAdd, Int.reduceMul, stG_own] at c1 c2 sa dt ⊢
 repeat (refine ⟨by decide, ?_⟩)
 refine callF_of c1 ?_
 (refine ev ?_; try exact ⟨⟩)
 repeat (refine ⟨by decide, ?_⟩)
 refine callF_of c2 ?_
 (refine ev ?_; try exact ⟨⟩)
 repeat (refine ⟨by decide, ?_⟩)
 refine callF_of sa ?_
 (refine ev ?_; try exact ⟨⟩)
 repeat (refine ⟨by decide, ?_⟩)
 refine callF_of dt ?_
 (refine ev ?_; try exact ⟨⟩)
 all_goals rfl
set_option maxHeartbeats 8000000 in
theorem Tryz.aOf (p q r s p2 q2 r2 s2 : V3) (m : M3) (hp : p.rd 100) (hq : q.rd 100) (hr : r.rd 100) (hs : s.rd 100) (hp2 : p2.rd 100) (hq2 : q2.rd 100) (hr2 : r2.rd 100) (hs2 : s2.rd 100) (hA : (sidesG p q r s).rd 100) (hB : (sidesG p2 q2 r2 s2).rd 100) (h0 : (sidesG p q r s).det ≠ 0) (hk : rd (sidesG p q r s).det ≤ 3000) (hi : (sidesG p q r s).inv.rd 1000)
  (hm : m.rd 100) (e1 : (sidesG p2 q2 r2 s2).mul (sidesG p q r s).inv = m.g) (e2 : p2.sub (m.g.app p) = m.s) : Con Tryz.prog Tryz.L 50 [.agg (P4 p q r s), .agg (P4 p2 q2 r2 s2)] (.tup [.agg m.L, .int .i64 0]) := by
 have sz : ∀ {v : V3}, v.rd 100 → v.t.sz 1000000 := fun h => V3.t_sz h (by decide)
 have ok : ∀ {v : V3}, v.rd 100 → v.t.ok := fun h => (V3.t_ok _).2 (V3.rd_mono h (by decide))
 obtain ⟨c1, c2⟩ := Tryz.ofirst p.t q.t r.t s.t p2.t q2.t r2.t s2.t (fa8.2 ⟨sz hp, sz hq, sz hr, sz hs, sz hp2, sz hq2, sz hr2, sz hs2⟩)
 rw [chk_t ⟨ok hp, ok hq, ok hr, ok hs, ok hp2, ok hq2, ok hr2, ok hs2⟩] at c2
 have sa := Tryz.asides p q r s hp hq hr hs (by decide)
 have sb := Tryz.asides p2 q2 r2 s2 hp2 hq2 hr2 hs2 (by decide)
 have dt := Tryz.adet (sidesG p q r s) hA (by decide)
 have z : ¬rt (sidesG p q r s).det = [48] := fun h => h0 (rt_zero.1 h)
 have iv := Tryz.ainv (sidesG p q r s) (G3.rd_mono hA (by decide)) h0 hk
 have ti := Tryz.agtimes (sidesG p2 q2 r2 s2) (sidesG p q r s).inv hB hi (by decide)
 rw [e1] at ti
 have o1 := Tryz.aof p2
 have o2 := Tryz.aof p
 have ap := Tryz.aapp m.g p hm.1 hp (by decide)
 have su := Tryz.asub p2 (m.g.app p) hp2 (G3.rd_app hm.1 hp) (by decide) (by decide)
 rw [e2] at su
 have ma : Con Tryz.prog Tryz.L 75 [.agg m.g.L, .agg m.s.L] (.tup [.agg m.L, .int .i64 0]) := Tryz.amade m.g m.s (G3.rd_mono hm.1 (by decide)) (V3.rd_mono hm.2 (by decide))
 generalize (sidesG p q r s).inv = I at *
 generalize (sidesG p q r s).det = dd at *
 generalize sidesG p q r s = A at *
 generalize sidesG p2 q2 r2 s2 = B at *
 generalize m.g.app p = u at *
 refine rule50 Tryz.hL rfl rfl rfl ?_
 simp only [P4, T4, V3.t, V3.L, G3.L, M3.L, List.cons_append, List.nil_append, pc50, rs50, oU, oC, evX, evY, evZ, forall_const, implies_true, initE, stepF, D.clean, mvF, moF, tkF, shF, ariF, ciF, catF, scF, ebF, eqF, eqOk, eqPr, enF, notF, ngF, cvF, csF, csbF, lenF, lenSF, ixF, iaF, PX.slot, iaAF, faF, ldF, D.mem, stF, bxF, mkSF, boundF, fldF, ixAF, mmF2, D.plain, D.isPure, optAll, D.dull, callVF, splice, D.cells, D.one, sets, resT, D.flat, D.flat0, D.simple, Nat.reduceBNe, Nat.reduceLT, reduceIte, Nat.reduceEqDiff, Nat.reduceAdd, Nat.reduceMul, Nat.reduceSub, Nat.reduceLeDiff, Int.reduceToNat, Int.reduceLT, Int.reduceLE, Int.reduceEq, Int.reduceNeg, Int.reduceSub, Int.reduceAdd, Int.reduceMul, stG_own] at c1 c2 sa sb dt iv ti o1 o2 ap su ma ⊢
 repeat (refine ⟨by decide, ?_⟩)
 refine callF_of c1 ?_
 (refine ev ?_; try exact ⟨⟩)
 repeat (refine ⟨by decide, ?_⟩)
 refine callF_of c2 ?_
 (refine ev ?_; try exact ⟨⟩)
 repeat (refine ⟨by decide, ?_⟩)
 refine callF_of sa ?_
 (refine ev ?_; try exact ⟨⟩)
 repeat (refine ⟨by decide, ?_⟩)
 refine callF_of dt ?_
 (refine ev ?_; try exact ⟨⟩)
 refine ⟨fun h => absurd h z, fun _ => ?_⟩
 repeat (refine ⟨by decide, ?_⟩)
 refine callF_of sb ?_
 (refine ev ?_; try exact ⟨⟩)
 repeat (refine ⟨by decide, ?_⟩)
 refine callF_of iv ?_
 (refine ev ?_; try exact ⟨⟩)
 repeat (refine ⟨by decide, ?_⟩)
 refine callF_of ti ?_
 (refine ev ?_; try exact ⟨⟩)
 repeat (refine ⟨by decide, ?_⟩)
 refine callF_of o1 ?_
 (refine ev ?_; try exact ⟨⟩)
 repeat (refine ⟨by decide, ?_⟩)
 refine callF_of o2 ?_
 (refine ev ?_; try exact ⟨⟩)
 repeat (refine ⟨by decide, ?_⟩)
 refine callF_of ap ?_
 (refine ev ?_; try exact ⟨⟩)
 repeat (refine ⟨by decide, ?_⟩)
 refine callF_of su ?_
 (refine ev ?_; try exact ⟨⟩)
 repeat (refine ⟨by decide, ?_⟩)
 refine callF_of ma ?_
 (refine ev ?_; try exact ⟨⟩)
 all_goals rfl
end Go.Proofs

/-
 AFFINE: AffinePlaces, printed by tools/aff18.py. Own work.
-/
namespace Go.Proofs
open Go Go.Pi Go.RowKit Go.Shelf Go.Ar Go.Mx

theorem side_map (u : V3) (k : Rat) (a b : V3) : (u.dot a + k) - (u.dot b + k) = u.dot (a.sub b) := by unfold V3.dot V3.sub; grind
theorem sides_map (m : M3) (p q r s : V3) : sidesG ((m.g.app p).add m.s) ((m.g.app q).add m.s) ((m.g.app r).add m.s) ((m.g.app s).add m.s) = m.g.mul (sidesG p q r s) := by
 apply G3.ext'
 ·exact V3.ext' (side_map m.g.a m.s.x q p) (side_map m.g.a m.s.x r p) (side_map m.g.a m.s.x s p)
 ·exact V3.ext' (side_map m.g.b m.s.y q p) (side_map m.g.b m.s.y r p) (side_map m.g.b m.s.y s p)
 ·exact V3.ext' (side_map m.g.c m.s.z q p) (side_map m.g.c m.s.z r p) (side_map m.g.c m.s.z s p)
theorem add_neg (u v : V3) : u.add (v.mul (-1)) = u.sub v := by
 apply V3.ext'
 ·show u.x + v.x * -1 = u.x - v.x; grind
 ·show u.y + v.y * -1 = u.y - v.y; grind
 ·show u.z + v.z * -1 = u.z - v.z; grind
theorem vol_det (p q r s : V3) : (q.sub p).dot ((r.sub p).cross (s.sub p)) = (sidesG p q r s).det := by
 unfold sidesG
 generalize q.sub p = a
 generalize r.sub p = b
 generalize s.sub p = c
 show a.x * (b.y * c.z - b.z * c.y) + a.y * (b.z * c.x - b.x * c.z) + a.z * (b.x * c.y - b.y * c.x) = a.x * (b.y * c.z - c.y * b.z) + b.x * (c.y * a.z - a.y * c.z) + c.x * (a.y * b.z - b.y * a.z)
 grind
theorem back_sub (m : M3) (p : V3) : ((m.g.app p).add m.s).sub (m.g.app p) = m.s := by
 generalize m.g.app p = u
 generalize m.s = v
 apply V3.ext'
 ·show u.x + v.x - u.x = v.x; grind
 ·show u.y + v.y - u.y = v.y; grind
 ·show u.z + v.z - u.z = v.z; grind
theorem inv_rdk {k : Nat} {g : G3} (h : g.rd k) (h0 : g.det ≠ 0) : g.inv.rd ((2 * (k + k + 1) + 3) + (3 * (k + (2 * (k + k + 1) + 3) + 1) + 4 + 1) + 1) := by
 obtain ⟨⟨a1, a2, a3⟩, ⟨b1, b2, b3⟩, ⟨c1, c2, c3⟩⟩ := G3.rd_adj h
 have hi := rd_inv (G3.rd_det h) h0
 exact ⟨⟨rd_mul a1 hi, rd_mul a2 hi, rd_mul a3 hi⟩, ⟨rd_mul b1 hi, rd_mul b2 hi, rd_mul b3 hi⟩, ⟨rd_mul c1 hi, rd_mul c2 hi, rd_mul c3 hi⟩⟩
theorem n1_num : (-1 : Rat).num = -1 := by decide +kernel
theorem n1_den : (-1 : Rat).den = 1 := by decide +kernel
set_option maxRecDepth 100000 in
set_option maxHeartbeats 32000000 in
theorem Tryz.lplaces (p : Pl) (r : Nat → Int) (hp : p.ok) (hr : ∀ i, i < 12 → i8 (r i)) : Con Tryz.prog Tryz.L 10 [.agg p.D, .agg [.int .i8 (r 0), .int .i8 (r 1), .int .i8 (r 2), .int .i8 (r 3), .int .i8 (r 4), .int .i8 (r 5), .int .i8 (r 6), .int .i8 (r 7), .int .i8 (r 8), .int .i8 (r 9), .int .i8 (r 10), .int .i8 (r 11)]] (.bool true) := by
 have kn := Tryz.lknown
 have mk := Tryz.lmake p hp
 have mo := Tryz.lmodel p hp
 have hm := p.mcb
 generalize p.m = m at *
 have v0 := Tryz.lvec (r 0) (r 1) (r 2) false (hr 0 (by decide)) (hr 1 (by decide)) (hr 2 (by decide))
 have b0 : V3.CB 2 12 ⟨vq false (r 0), vq false (r 1), vq false (r 2)⟩ := ⟨vq_cb _ _, vq_cb _ _, vq_cb _ _⟩
 generalize (⟨vq false (r 0), vq false (r 1), vq false (r 2)⟩ : V3) = w0 at *
 have v1 := Tryz.lvec (r 3) (r 4) (r 5) false (hr 3 (by decide)) (hr 4 (by decide)) (hr 5 (by decide))
 have b1 : V3.CB 2 12 ⟨vq false (r 3), vq false (r 4), vq false (r 5)⟩ := ⟨vq_cb _ _, vq_cb _ _, vq_cb _ _⟩
 generalize (⟨vq false (r 3), vq false (r 4), vq false (r 5)⟩ : V3) = w1 at *
 have v2 := Tryz.lvec (r 6) (r 7) (r 8) false (hr 6 (by decide)) (hr 7 (by decide)) (hr 8 (by decide))
 have b2 : V3.CB 2 12 ⟨vq false (r 6), vq false (r 7), vq false (r 8)⟩ := ⟨vq_cb _ _, vq_cb _ _, vq_cb _ _⟩
 generalize (⟨vq false (r 6), vq false (r 7), vq false (r 8)⟩ : V3) = w2 at *
 have v3 := Tryz.lvec (r 9) (r 10) (r 11) false (hr 9 (by decide)) (hr 10 (by decide)) (hr 11 (by decide))
 have b3 : V3.CB 2 12 ⟨vq false (r 9), vq false (r 10), vq false (r 11)⟩ := ⟨vq_cb _ _, vq_cb _ _, vq_cb _ _⟩
 generalize (⟨vq false (r 9), vq false (r 10), vq false (r 11)⟩ : V3) = w3 at *
 have hsf : m.SF := ⟨v3sf hm.1, v3sf hm.2.1, v3sf hm.2.2.1, v3sf hm.2.2.2⟩
 have ap := fun (w : V3) (b : w.CB 2 12) => Tryz.wapply m w hsf (v3sf b) (dok hm.1 b) (dok hm.2.1 b) (dok hm.2.2.1 b) (v3sf (app_cb hm.1 hm.2.1 hm.2.2.1 b))
 have uc := fun (w : V3) (b : w.CB 2 12) => (app_cb hm.1 hm.2.1 hm.2.2.1 b).add (hm.2.2.2.up 2)
 have n1 : Go.Proofs.CB 1 1 (-1) := ⟨-1, by decide, by decide +kernel⟩
 have ws := fun (w : V3) (b : w.CB 2 12) => Tryz.wsum w w0 (-1) (v3sf b) (v3sf b0) (n1.sf (by decide) (by decide) (by decide)) (v3sf (b0.mul n1))
 have sc := fun (w : V3) (b : w.CB 2 12) => V3.CB.sub b b0
 have x0 := Tryz.wvector w0 (v3sf b0)
 have a0 := ap w0 b0
 have c0 := uc w0 b0
 have y0 := Tryz.wvector _ (v3sf c0)
 have x1 := Tryz.wvector w1 (v3sf b1)
 have a1 := ap w1 b1
 have c1 := uc w1 b1
 have y1 := Tryz.wvector _ (v3sf c1)
 have x2 := Tryz.wvector w2 (v3sf b2)
 have a2 := ap w2 b2
 have c2 := uc w2 b2
 have y2 := Tryz.wvector _ (v3sf c2)
 have x3 := Tryz.wvector w3 (v3sf b3)
 have a3 := ap w3 b3
 have c3 := uc w3 b3
 have y3 := Tryz.wvector _ (v3sf c3)
 have s1 := ws w1 b1
 rw [add_neg] at s1
 have d1 := sc w1 b1
 have s2 := ws w2 b2
 rw [add_neg] at s2
 have d2 := sc w2 b2
 have s3 := ws w3 b3
 rw [add_neg] at s3
 have d3 := sc w3 b3
 have cr := Tryz.wcross (w2.sub w0) (w3.sub w0) (v3sf d2) (v3sf d3) (xok d2 d3)
 have dx := d2.cross d3
 have dt := Tryz.wdot (w1.sub w0) ((w2.sub w0).cross (w3.sub w0)) (v3sf d1) (v3sf dx) (dok d1 dx)
 rw [vol_det] at dt
 have zo := Tryz.fzero
 have hA : (sidesG w0 w1 w2 w3).rd 10 := G3.rd_tr ⟨v3rd d1 10, v3rd d2 10, v3rd d3 10⟩
 have hB : (sidesG ((m.g.app w0).add m.s) ((m.g.app w1).add m.s) ((m.g.app w2).add m.s) ((m.g.app w3).add m.s)).rd 100 := G3.rd_tr ⟨v3rd (c1.sub c0) 100, v3rd (c2.sub c0) 100, v3rd (c3.sub c0) 100⟩
 have e1 : (sidesG w0 w1 w2 w3).det ≠ 0 → (sidesG ((m.g.app w0).add m.s) ((m.g.app w1).add m.s) ((m.g.app w2).add m.s) ((m.g.app w3).add m.s)).mul (sidesG w0 w1 w2 w3).inv = m.g := fun h0 => by
  rw [sides_map, mul_assoc3, mul_inv3 h0, mul_one3]
 have e2 := back_sub m w0
 have hmr : m.rd 100 := M3.rd_mono hm.rd (by decide)
 clear ap uc ws sc
 generalize (m.g.app w0).add m.s = u0 at *
 generalize (m.g.app w1).add m.s = u1 at *
 generalize (m.g.app w2).add m.s = u2 at *
 generalize (m.g.app w3).add m.s = u3 at *
 have o2 := Tryz.aOf2 w0.t w1.t w2.t w3.t u0.t u1.t u2.t ⟨[48, 47, 49], rt u3.y, rt u3.z⟩
  (fa8.2 ⟨V3.t_sz (v3rd b0 100) (by decide), V3.t_sz (v3rd b1 100) (by decide), V3.t_sz (v3rd b2 100) (by decide), V3.t_sz (v3rd b3 100) (by decide), V3.t_sz (v3rd c0 100) (by decide), V3.t_sz (v3rd c1 100) (by decide), V3.t_sz (v3rd c2 100) (by decide),
   ⟨(by decide : [48, 47, 49].length ≤ 1000000), (V3.t_sz (v3rd c3 100) (by decide)).2.1, (V3.t_sz (v3rd c3 100) (by decide)).2.2⟩⟩) (fun h => bad01 h.2.2.2.2.2.2.2.1)
 obtain ⟨R, hof⟩ : ∃ R : D, Con Tryz.prog Tryz.L 50 [.agg (P4 w0 w1 w2 w3), .agg (P4 u0 u1 u2 u3)] R ∧ R = if (sidesG w0 w1 w2 w3).det = 0 then .tup [.agg [.str [], .str [], .str [], .str [], .str [], .str [], .str [], .str [], .str [], .str [], .str [], .str []], .int .i64 18] else .tup [.agg m.L, .int .i64 0] := by
  refine ⟨_, ?_, rfl⟩
  by_cases h0 : (sidesG w0 w1 w2 w3).det = 0
  ·rw [if_pos h0]
   exact Tryz.aOf0 w0 w1 w2 w3 u0 u1 u2 u3 (v3rd b0 100) (v3rd b1 100) (v3rd b2 100) (v3rd b3 100) (v3rd c0 100) (v3rd c1 100) (v3rd c2 100) (v3rd c3 100) (G3.rd_mono hA (by decide)) h0
  ·rw [if_neg h0]
   exact Tryz.aOf w0 w1 w2 w3 u0 u1 u2 u3 m (v3rd b0 100) (v3rd b1 100) (v3rd b2 100) (v3rd b3 100) (v3rd c0 100) (v3rd c1 100) (v3rd c2 100) (v3rd c3 100) (G3.rd_mono hA (by decide)) hB h0 (by have := G3.rd_det hA; omega) (G3.rd_mono (inv_rdk hA h0) (by decide)) hmr (e1 h0) e2
 obtain ⟨o1, hof⟩ := hof
 generalize (sidesG w0 w1 w2 w3).det = vol at *
 generalize (w2.sub w0).cross (w3.sub w0) = k23 at *
 generalize w1.sub w0 = k1 at *
 generalize w2.sub w0 = k2 at *
 generalize w3.sub w0 = k3 at *
 clear b0 b1 b2 b3 c0 c1 c2 c3 d1 d2 d3 dx hA hB e1 e2 hmr hm hsf n1 hr hp
 refine rule10 Tryz.hL rfl rfl rfl ?_
 simp only [P4, T4, V3.t, Pl.D, fD, V3.F, V3.L, M3.F, M3.L, n1_num, n1_den, show (0 : Rat).num = 0 from rfl, show (0 : Rat).den = 1 from rfl, pc10, rs10, oU, oC, evX, evY, evZ, forall_const, implies_true, initE, stepF, D.clean, mvF, moF, tkF, shF, ariF, ciF, catF, scF, ebF, eqF, eqOk, eqPr, enF, notF, ngF, cvF, csF, csbF, lenF, lenSF, ixF, iaF, PX.slot, iaAF, faF, ldF, D.mem, stF, bxF, mkSF, boundF, fldF, ixAF, mmF2, D.plain, D.isPure, optAll, D.dull, callVF, splice, D.cells, D.one, sets, resT, D.flat, D.flat0, D.simple, Nat.reduceBNe, Nat.reduceLT, reduceIte, Nat.reduceEqDiff, Nat.reduceAdd, Nat.reduceMul, Nat.reduceSub, Nat.reduceLeDiff, Int.reduceToNat, Int.reduceLT, Int.reduceLE, Int.reduceEq, Int.reduceNeg, Int.reduceSub, Int.reduceAdd, Int.reduceMul, stG_own] at v0 v1 v2 v3 x0 x1 x2 x3 a0 a1 a2 a3 y0 y1 y2 y3 s1 s2 s3 cr dt zo mk mo kn o1 o2 hof ⊢
 repeat (refine ⟨by decide, ?_⟩)
 refine callF_of kn ?_
 (refine ev ?_; try exact ⟨⟩)
 refine loopF_of (fun E => ∃ (f t q : List D) (i : Int), ((i = 0 ∧ f = [.str [], .str [], .str [], .str [], .str [], .str [], .str [], .str [], .str [], .str [], .str [], .str []] ∧ t = [.str [], .str [], .str [], .str [], .str [], .str [], .str [], .str [], .str [], .str [], .str [], .str []] ∧ q = [.int .i64 0, .int .i64 0, .int .i64 0, .int .i64 0, .int .i64 0, .int .i64 0, .int .i64 0, .int .i64 0, .int .i64 0, .int .i64 0, .int .i64 0, .int .i64 0, .int .i64 0, .int .i64 0, .int .i64 0, .int .i64 0, .int .i64 0, .int .i64 0, .int .i64 0, .int .i64 0, .int .i64 0, .int .i64 0, .int .i64 0, .int .i64 0]) ∨ (i = 1 ∧ f = [.str (rt w0.x), .str (rt w0.y), .str (rt w0.z), .str [], .str [], .str [], .str [], .str [], .str [], .str [], .str [], .str []] ∧ t = [.str (rt u0.x), .str (rt u0.y), .str (rt u0.z), .str [], .str [], .str [], .str [], .str [], .str [], .str [], .str [], .str []] ∧ q = [.int .i64 w0.x.num, .int .i64 w0.x.den, .int .i64 w0.y.num, .int .i64 w0.y.den, .int .i64 w0.z.num, .int .i64 w0.z.den, .int .i64 0, .int .i64 0, .int .i64 0, .int .i64 0, .int .i64 0, .int .i64 0, .int .i64 0, .int .i64 0, .int .i64 0, .int .i64 0, .int .i64 0, .int .i64 0, .int .i64 0, .int .i64 0, .int .i64 0, .int .i64 0, .int .i64 0, .int .i64 0]) ∨ (i = 2 ∧ f = [.str (rt w0.x), .str (rt w0.y), .str (rt w0.z), .str (rt w1.x), .str (rt w1.y), .str (rt w1.z), .str [], .str [], .str [], .str [], .str [], .str []] ∧ t = [.str (rt u0.x), .str (rt u0.y), .str (rt u0.z), .str (rt u1.x), .str (rt u1.y), .str (rt u1.z), .str [], .str [], .str [], .str [], .str [], .str []] ∧ q = [.int .i64 w0.x.num, .int .i64 w0.x.den, .int .i64 w0.y.num, .int .i64 w0.y.den, .int .i64 w0.z.num, .int .i64 w0.z.den, .int .i64 w1.x.num, .int .i64 w1.x.den, .int .i64 w1.y.num, .int .i64 w1.y.den, .int .i64 w1.z.num, .int .i64 w1.z.den, .int .i64 0, .int .i64 0, .int .i64 0, .int .i64 0, .int .i64 0, .int .i64 0, .int .i64 0, .int .i64 0, .int .i64 0, .int .i64 0, .int .i64 0, .int .i64 0]) ∨ (i = 3 ∧ f = [.str (rt w0.x), .str (rt w0.y), .str (rt w0.z), .str (rt w1.x), .str (rt w1.y), .str (rt w1.z), .str (rt w2.x), .str (rt w2.y), .str (rt w2.z), .str [], .str [], .str []] ∧ t = [.str (rt u0.x), .str (rt u0.y), .str (rt u0.z), .str (rt u1.x), .str (rt u1.y), .str (rt u1.z), .str (rt u2.x), .str (rt u2.y), .str (rt u2.z), .str [], .str [], .str []] ∧ q = [.int .i64 w0.x.num, .int .i64 w0.x.den, .int .i64 w0.y.num, .int .i64 w0.y.den, .int .i64 w0.z.num, .int .i64 w0.z.den, .int .i64 w1.x.num, .int .i64 w1.x.den, .int .i64 w1.y.num, .int .i64 w1.y.den, .int .i64 w1.z.num, .int .i64 w1.z.den, .int .i64 w2.x.num, .int .i64 w2.x.den, .int .i64 w2.y.num, .int .i64 w2.y.den, .int .i64 w2.z.num, .int .i64 w2.z.den, .int .i64 0, .int .i64 0, .int .i64 0, .int .i64 0, .int .i64 0, .int .i64 0]) ∨ (i = 4 ∧ f = [.str (rt w0.x), .str (rt w0.y), .str (rt w0.z), .str (rt w1.x), .str (rt w1.y), .str (rt w1.z), .str (rt w2.x), .str (rt w2.y), .str (rt w2.z), .str (rt w3.x), .str (rt w3.y), .str (rt w3.z)] ∧ t = [.str (rt u0.x), .str (rt u0.y), .str (rt u0.z), .str (rt u1.x), .str (rt u1.y), .str (rt u1.z), .str (rt u2.x), .str (rt u2.y), .str (rt u2.z), .str (rt u3.x), .str (rt u3.y), .str (rt u3.z)] ∧ q = [.int .i64 w0.x.num, .int .i64 w0.x.den, .int .i64 w0.y.num, .int .i64 w0.y.den, .int .i64 w0.z.num, .int .i64 w0.z.den, .int .i64 w1.x.num, .int .i64 w1.x.den, .int .i64 w1.y.num, .int .i64 w1.y.den, .int .i64 w1.z.num, .int .i64 w1.z.den, .int .i64 w2.x.num, .int .i64 w2.x.den, .int .i64 w2.y.num, .int .i64 w2.y.den, .int .i64 w2.z.num, .int .i64 w2.z.den, .int .i64 w3.x.num, .int .i64 w3.x.den, .int .i64 w3.y.num, .int .i64 w3.y.den, .int .i64 w3.z.num, .int .i64 w3.z.den])) ∧ E = [(2, .box true p.D), (3, .box true [.int .i8 (r 0), .int .i8 (r 1), .int .i8 (r 2), .int .i8 (r 3), .int .i8 (r 4), .int .i8 (r 5), .int .i8 (r 6), .int .i8 (r 7), .int .i8 (r 8), .int .i8 (r 9), .int .i8 (r 10), .int .i8 (r 11)]), (5, .box true f), (6, .box true t), (7, .box true q), (8, .int .i64 i)])
  (fun E => match lk E 8 with | .int _ i => (4 - i).toNat | _ => 0) ⟨_, _, _, _, .inl ⟨rfl, rfl, rfl, rfl⟩, rfl⟩ ?_
 rintro _ ⟨f, t, q, i, hi, rfl⟩
 rcases hi with ⟨rfl, rfl, rfl, rfl⟩ | ⟨rfl, rfl, rfl, rfl⟩ | ⟨rfl, rfl, rfl, rfl⟩ | ⟨rfl, rfl, rfl, rfl⟩ | ⟨rfl, rfl, rfl, rfl⟩
 ·simp only [Pl.D, evX, evY, evZ, forall_const, implies_true, initE, stepF, D.clean, mvF, moF, tkF, shF, ariF, ciF, catF, scF, ebF, eqF, eqOk, eqPr, enF, notF, ngF, cvF, csF, csbF, lenF, lenSF, ixF, iaF, PX.slot, iaAF, faF, ldF, D.mem, stF, bxF, mkSF, boundF, fldF, ixAF, mmF2, D.plain, D.isPure, optAll, D.dull, callVF, splice, D.cells, D.one, sets, resT, D.flat, D.flat0, D.simple, Nat.reduceBNe, Nat.reduceLT, reduceIte, Nat.reduceEqDiff, Nat.reduceAdd, Nat.reduceMul, Nat.reduceSub, Nat.reduceLeDiff, Int.reduceToNat, Int.reduceLT, Int.reduceLE, Int.reduceEq, Int.reduceNeg, Int.reduceSub, Int.reduceAdd, Int.reduceMul, stG_own]
  repeat (refine ⟨by decide, ?_⟩)
  refine callF_of v0 ?_
  (refine ev ?_; try exact ⟨⟩)
  repeat (refine ⟨by decide, ?_⟩)
  refine callF_of x0 ?_
  (refine ev ?_; try exact ⟨⟩)
  repeat (refine ⟨by decide, ?_⟩)
  refine callF_of mo ?_
  (refine ev ?_; try exact ⟨⟩)
  repeat (refine ⟨by decide, ?_⟩)
  refine callF_of a0 ?_
  (refine ev ?_; try exact ⟨⟩)
  repeat (refine ⟨by decide, ?_⟩)
  refine callF_of y0 ?_
  (refine ev ?_; try exact ⟨⟩)
  repeat (refine ⟨by decide, ?_⟩)
  exact ⟨_, _, _, _, .inr (.inl ⟨rfl, rfl, rfl, rfl⟩), by simp [Pl.D]⟩
 ·simp only [Pl.D, evX, evY, evZ, forall_const, implies_true, initE, stepF, D.clean, mvF, moF, tkF, shF, ariF, ciF, catF, scF, ebF, eqF, eqOk, eqPr, enF, notF, ngF, cvF, csF, csbF, lenF, lenSF, ixF, iaF, PX.slot, iaAF, faF, ldF, D.mem, stF, bxF, mkSF, boundF, fldF, ixAF, mmF2, D.plain, D.isPure, optAll, D.dull, callVF, splice, D.cells, D.one, sets, resT, D.flat, D.flat0, D.simple, Nat.reduceBNe, Nat.reduceLT, reduceIte, Nat.reduceEqDiff, Nat.reduceAdd, Nat.reduceMul, Nat.reduceSub, Nat.reduceLeDiff, Int.reduceToNat, Int.reduceLT, Int.reduceLE, Int.reduceEq, Int.reduceNeg, Int.reduceSub, Int.reduceAdd, Int.reduceMul, stG_own]
  repeat (refine ⟨by decide, ?_⟩)
  refine callF_of v1 ?_
  (refine ev ?_; try exact ⟨⟩)
  repeat (refine ⟨by decide, ?_⟩)
  refine callF_of x1 ?_
  (refine ev ?_; try exact ⟨⟩)
  repeat (refine ⟨by decide, ?_⟩)
  refine callF_of mo ?_
  (refine ev ?_; try exact ⟨⟩)
  repeat (refine ⟨by decide, ?_⟩)
  refine callF_of a1 ?_
  (refine ev ?_; try exact ⟨⟩)
  repeat (refine ⟨by decide, ?_⟩)
  refine callF_of y1 ?_
  (refine ev ?_; try exact ⟨⟩)
  repeat (refine ⟨by decide, ?_⟩)
  exact ⟨_, _, _, _, .inr (.inr (.inl ⟨rfl, rfl, rfl, rfl⟩)), by simp [Pl.D]⟩
 ·simp only [Pl.D, evX, evY, evZ, forall_const, implies_true, initE, stepF, D.clean, mvF, moF, tkF, shF, ariF, ciF, catF, scF, ebF, eqF, eqOk, eqPr, enF, notF, ngF, cvF, csF, csbF, lenF, lenSF, ixF, iaF, PX.slot, iaAF, faF, ldF, D.mem, stF, bxF, mkSF, boundF, fldF, ixAF, mmF2, D.plain, D.isPure, optAll, D.dull, callVF, splice, D.cells, D.one, sets, resT, D.flat, D.flat0, D.simple, Nat.reduceBNe, Nat.reduceLT, reduceIte, Nat.reduceEqDiff, Nat.reduceAdd, Nat.reduceMul, Nat.reduceSub, Nat.reduceLeDiff, Int.reduceToNat, Int.reduceLT, Int.reduceLE, Int.reduceEq, Int.reduceNeg, Int.reduceSub, Int.reduceAdd, Int.reduceMul, stG_own]
  repeat (refine ⟨by decide, ?_⟩)
  refine callF_of v2 ?_
  (refine ev ?_; try exact ⟨⟩)
  repeat (refine ⟨by decide, ?_⟩)
  refine callF_of x2 ?_
  (refine ev ?_; try exact ⟨⟩)
  repeat (refine ⟨by decide, ?_⟩)
  refine callF_of mo ?_
  (refine ev ?_; try exact ⟨⟩)
  repeat (refine ⟨by decide, ?_⟩)
  refine callF_of a2 ?_
  (refine ev ?_; try exact ⟨⟩)
  repeat (refine ⟨by decide, ?_⟩)
  refine callF_of y2 ?_
  (refine ev ?_; try exact ⟨⟩)
  repeat (refine ⟨by decide, ?_⟩)
  exact ⟨_, _, _, _, .inr (.inr (.inr (.inl ⟨rfl, rfl, rfl, rfl⟩))), by simp [Pl.D]⟩
 ·simp only [Pl.D, evX, evY, evZ, forall_const, implies_true, initE, stepF, D.clean, mvF, moF, tkF, shF, ariF, ciF, catF, scF, ebF, eqF, eqOk, eqPr, enF, notF, ngF, cvF, csF, csbF, lenF, lenSF, ixF, iaF, PX.slot, iaAF, faF, ldF, D.mem, stF, bxF, mkSF, boundF, fldF, ixAF, mmF2, D.plain, D.isPure, optAll, D.dull, callVF, splice, D.cells, D.one, sets, resT, D.flat, D.flat0, D.simple, Nat.reduceBNe, Nat.reduceLT, reduceIte, Nat.reduceEqDiff, Nat.reduceAdd, Nat.reduceMul, Nat.reduceSub, Nat.reduceLeDiff, Int.reduceToNat, Int.reduceLT, Int.reduceLE, Int.reduceEq, Int.reduceNeg, Int.reduceSub, Int.reduceAdd, Int.reduceMul, stG_own]
  repeat (refine ⟨by decide, ?_⟩)
  refine callF_of v3 ?_
  (refine ev ?_; try exact ⟨⟩)
  repeat (refine ⟨by decide, ?_⟩)
  refine callF_of x3 ?_
  (refine ev ?_; try exact ⟨⟩)
  repeat (refine ⟨by decide, ?_⟩)
  refine callF_of mo ?_
  (refine ev ?_; try exact ⟨⟩)
  repeat (refine ⟨by decide, ?_⟩)
  refine callF_of a3 ?_
  (refine ev ?_; try exact ⟨⟩)
  repeat (refine ⟨by decide, ?_⟩)
  refine callF_of y3 ?_
  (refine ev ?_; try exact ⟨⟩)
  repeat (refine ⟨by decide, ?_⟩)
  exact ⟨_, _, _, _, .inr (.inr (.inr (.inr (⟨rfl, rfl, rfl, rfl⟩)))), by simp [Pl.D]⟩
 ·simp only [Pl.D, evX, evY, evZ, forall_const, implies_true, initE, stepF, D.clean, mvF, moF, tkF, shF, ariF, ciF, catF, scF, ebF, eqF, eqOk, eqPr, enF, notF, ngF, cvF, csF, csbF, lenF, lenSF, ixF, iaF, PX.slot, iaAF, faF, ldF, D.mem, stF, bxF, mkSF, boundF, fldF, ixAF, mmF2, D.plain, D.isPure, optAll, D.dull, callVF, splice, D.cells, D.one, sets, resT, D.flat, D.flat0, D.simple, Nat.reduceBNe, Nat.reduceLT, reduceIte, Nat.reduceEqDiff, Nat.reduceAdd, Nat.reduceMul, Nat.reduceSub, Nat.reduceLeDiff, Int.reduceToNat, Int.reduceLT, Int.reduceLE, Int.reduceEq, Int.reduceNeg, Int.reduceSub, Int.reduceAdd, Int.reduceMul, stG_own]
  by_cases h0 : vol = 0
  ·rw [if_pos h0] at hof
   subst hof
   repeat (refine ⟨by decide, ?_⟩)
   refine callF_of o1 ?_
   (refine ev ?_; try exact ⟨⟩)
   repeat (refine ⟨by decide, ?_⟩)
   refine callF_of o2 ?_
   (refine ev ?_; try exact ⟨⟩)
   repeat (refine ⟨by decide, ?_⟩)
   refine callF_of s1 ?_
   (refine ev ?_; try exact ⟨⟩)
   repeat (refine ⟨by decide, ?_⟩)
   refine callF_of s2 ?_
   (refine ev ?_; try exact ⟨⟩)
   repeat (refine ⟨by decide, ?_⟩)
   refine callF_of s3 ?_
   (refine ev ?_; try exact ⟨⟩)
   repeat (refine ⟨by decide, ?_⟩)
   refine callF_of cr ?_
   (refine ev ?_; try exact ⟨⟩)
   repeat (refine ⟨by decide, ?_⟩)
   refine callF_of dt ?_
   (refine ev ?_; try exact ⟨⟩)
   repeat (refine ⟨by decide, ?_⟩)
   refine callF_of zo ?_
   (refine ev ?_; try exact ⟨⟩)
   exact fun h => h ⟨by rw [h0]; rfl, by rw [h0]; rfl⟩
  ·rw [if_neg h0] at hof
   subst hof
   repeat (refine ⟨by decide, ?_⟩)
   refine callF_of o1 ?_
   (refine ev ?_; try exact ⟨⟩)
   repeat (refine ⟨by decide, ?_⟩)
   refine callF_of o2 ?_
   (refine ev ?_; try exact ⟨⟩)
   repeat (refine ⟨by decide, ?_⟩)
   refine callF_of s1 ?_
   (refine ev ?_; try exact ⟨⟩)
   repeat (refine ⟨by decide, ?_⟩)
   refine callF_of s2 ?_
   (refine ev ?_; try exact ⟨⟩)
   repeat (refine ⟨by decide, ?_⟩)
   refine callF_of s3 ?_
   (refine ev ?_; try exact ⟨⟩)
   repeat (refine ⟨by decide, ?_⟩)
   refine callF_of cr ?_
   (refine ev ?_; try exact ⟨⟩)
   repeat (refine ⟨by decide, ?_⟩)
   refine callF_of dt ?_
   (refine ev ?_; try exact ⟨⟩)
   repeat (refine ⟨by decide, ?_⟩)
   refine callF_of zo ?_
   (refine ev ?_; try exact ⟨⟩)
   refine ⟨fun h => absurd (Rat.num_eq_zero.1 h.1) h0, fun _ => ?_⟩
   repeat (refine ⟨by decide, ?_⟩)
   refine callF_of mk ?_
   (refine ev ?_; try exact ⟨⟩)

end Go.Proofs
