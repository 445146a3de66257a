/-
  STEREONET: the chapter's examples: known() is true. Own work.
-/
import Derived.Test.YtidmnjnhccoblaaGreatDoorPj
import Derived.Test.YtidmnjnhccoblaaGreatDoorSh
import Derived.Test.YtidmnjnhccoblaaGreatDoorEh
import Derived.Test.YtidmnjnhccoblaaGreatDoorSg
set_option linter.unusedVariables false
set_option linter.unusedSimpArgs false
namespace Go.Proofs
open Go Go.Pi Go.RowKit Go.Ar Go.Ne

theorem val_of (q : Rat) (h : rd q ≤ 200) : val (rt q) = q := by
  have := val_rt (s := rt q) ⟨q, rfl, h⟩
  exact (rt_inj this).symm
theorem px_one : pixV false 100 (1, 0, -1) = (41, 0) := by decide +kernel
theorem px_two : pixV true 100 (1, 0, 1) = (-54, 0) := by decide +kernel
theorem px_down : pixV false 1 (0, 0, -1) = (0, 0) := by decide +kernel
theorem rt_p0 : rt 0 = [48] := zero_txt
theorem rt_p1 : rt 1 = [49] := by kernel_rfl
theorem rd_01 : rd (0 : Rat) ≤ 200 ∧ rd (1 : Rat) ≤ 200 ∧ rd (-1 : Rat) ≤ 200 := ⟨by rw [show (0 : Rat) = ((0 : Int) : Rat) from rfl]; exact Nat.le_trans (rd_int (k := 1) (by decide) (by decide)) (by decide), by rw [show (1 : Rat) = ((1 : Int) : Rat) from rfl]; exact Nat.le_trans (rd_int (k := 1) (by decide) (by decide)) (by decide), Nat.le_trans rd_m1 (by decide)⟩
theorem vl_0 : val [48] = 0 := by rw [← rt_p0]; exact val_of 0 rd_01.1
theorem vl_1 : val [49] = 1 := by rw [← rt_p1]; exact val_of 1 rd_01.2.1
theorem vl_m1 : val [45, 49] = -1 := by rw [← rt_m1]; exact val_of (-1) rd_01.2.2
theorem ok_0 : okR [48] := ⟨0, rt_p0.symm, rd_01.1⟩
theorem ok_1 : okR [49] := ⟨1, rt_p1.symm, rd_01.2.1⟩
theorem ok_m1 : okR [45, 49] := ⟨-1, rt_m1.symm, rd_01.2.2⟩
theorem Tryz.kpix1 : pixR 1 100 ([49], [48], [45, 49]) = .tup [.agg [.int .i64 41, .int .i64 0], .int .i64 0] := by
  unfold pixR
  rw [if_pos (errN_0.2 ⟨fun v hv => by rw [List.mem_singleton.1 hv]; exact ⟨ok_1, ok_0, ok_m1⟩, by decide, by decide⟩)]
  have e : val3 ([49], [48], [45, 49]) = (1, 0, -1) := by simp only [val3, vl_0, vl_1, vl_m1]
  have ea : areaB 1 = false := rfl
  rw [e, ea, show (100 : Int).toNat = 100 from rfl, px_one]
  rfl
theorem Tryz.kpix2 : pixR 2 100 ([49], [48], [49]) = .tup [.agg [.int .i64 (-54), .int .i64 0], .int .i64 0] := by
  unfold pixR
  rw [if_pos (errN_0.2 ⟨fun v hv => by rw [List.mem_singleton.1 hv]; exact ⟨ok_1, ok_0, ok_1⟩, by decide, by decide⟩)]
  have e : val3 ([49], [48], [49]) = (1, 0, 1) := by simp only [val3, vl_0, vl_1]
  have ea : areaB 2 = true := rfl
  rw [e, ea, show (100 : Int).toNat = 100 from rfl, px_two]
  rfl
def dn : S3 := ([48], [48], [45, 49])
theorem Tryz.kpic : picR 1 1 [dn, dn] = .tup [.sl 3 [.str [32, 46, 32], .str [46, 50, 46], .str [32, 46, 32]], .int .i64 0] := by
  have hz : zerE [dn, dn] = 0 := by decide
  have hn : numE [dn, dn] = 0 := num_0.2 (fun v hv => by
    have : v = dn := by simpa using hv
    rw [this]; exact ⟨ok_0, ok_0, ok_m1⟩)
  have he : picE 1 1 [dn, dn] = 0 := by unfold picE; rw [hn, hz]; decide
  unfold picR
  rw [if_pos he]
  have hp : ∀ i, i < 2 → pxs 1 1 [dn, dn] i = (0, 0) := fun i hi => by
    have e : val3 dn = (0, 0, -1) := by simp only [val3, dn, vl_0, vl_m1]
    have : [dn, dn].getD i ([], [], []) = dn := by
      match i, hi with
      | 0, _ => rfl
      | 1, _ => rfl
    unfold pxs
    rw [this, e]
    exact px_down
  have hc : cntP (pxs 1 (1 : Int).toNat [dn, dn]) [dn, dn].length = fun c r => if c = 0 ∧ r = 0 then 2 else 0 := by
    funext c r
    show cntP (pxs 1 1 [dn, dn]) 2 c r = _
    simp only [cntP, hp 0 (by decide), hp 1 (by decide)]
    split <;> simp_all
  rw [hc]
  rfl
set_option maxHeartbeats 4000000 in
theorem Tryz.eqStr3 (x y z : List UInt8) : Con Tryz.prog Tryz.L 37 [.sl 3 [.str x, .str y, .str z], .sl 3 [.str x, .str y, .str z]] (.bool true) := by
  refine rule37 Tryz.hL rfl rfl rfl ?_
  (simp only [pc37, rs37, oU, oC]; refine ev ?_; try with_reducible exact trivial)
  refine loopF_of (fun E => ∃ k : Nat, k ≤ 3 ∧ E = [(0, .sl 3 [.str x, .str y, .str z]), (1, .sl 3 [.str x, .str y, .str z]), (12, .int .i64 3), (13, .int .i64 k)])
    (fun E => match lk E 13 with | .int _ i => 3 - i.toNat | _ => 0) ⟨0, by omega, rfl⟩ ?_
  rintro _ ⟨k, hk, rfl⟩
  obtain rfl | rfl | rfl | rfl : k = 0 ∨ k = 1 ∨ k = 2 ∨ k = 3 := by omega
  · (refine ev ?_; try with_reducible exact trivial)
    exact fun _ => ⟨⟨by decide, by decide⟩, ⟨by decide, by decide⟩, ⟨by decide, by decide⟩, ⟨1, by omega, rfl⟩, by decide⟩
  · (refine ev ?_; try with_reducible exact trivial)
    exact fun _ => ⟨⟨by decide, by decide⟩, ⟨by decide, by decide⟩, ⟨by decide, by decide⟩, ⟨2, by omega, rfl⟩, by decide⟩
  · (refine ev ?_; try with_reducible exact trivial)
    exact fun _ => ⟨⟨by decide, by decide⟩, ⟨by decide, by decide⟩, ⟨by decide, by decide⟩, ⟨3, by omega, rfl⟩, by decide⟩
  · (refine ev ?_; try with_reducible exact trivial)
    exact fun h => absurd h (by omega)
set_option maxRecDepth 100000 in
set_option maxHeartbeats 4000000 in
theorem Tryz.known18 : Con Tryz.prog Tryz.L 10 [] (.bool true) := by
  have c1 := Tryz.sPixel 1 100 ([49], [48], [45, 49]) ⟨by decide, by decide, by decide⟩
  have c2 := Tryz.sPixel 2 100 ([49], [48], [49]) ⟨by decide, by decide, by decide⟩
  have c3 := Tryz.spicture 1 1 [dn, dn] (by decide) (fun v hv => by
    have : v = dn := by simpa using hv
    rw [this]; exact ⟨by decide, by decide, by decide⟩)
  rw [Tryz.kpix1] at c1
  rw [Tryz.kpix2] at c2
  rw [Tryz.kpic] at c3
  have c4 := Tryz.eqStr3 [32, 46, 32] [46, 50, 46] [32, 46, 32]
  have e3 : svs [dn, dn] = [.str [48], .str [48], .str [45, 49], .str [48], .str [48], .str [45, 49]] := rfl
  rw [lS, e3] at c3
  refine rule10 Tryz.hL rfl rfl rfl ?_
  simp only [netD, svD, pc10, rs10, oU, oC, evX, evY, evZ, forall_const, implies_true, initE, stepF, D.clean, mvF, moF, tkF, shF, ariF, ciF, catF, scF, ebF, eqF, eqOk, eqPr, enF, notF, ngF, cvF, csF, csbF, lenF, lenSF, ixF, iaF, PX.slot, iaAF, faF, ldF, D.mem, stF, bxF, mkSF, boundF, fldF, ixAF, mmF2, D.plain, D.isPure, optAll, D.dull, callVF, splice, D.cells, D.one, sets, resT, D.flat, D.flat0, D.simple, Nat.reduceBNe, Nat.reduceLT, reduceIte, Nat.reduceEqDiff, Nat.reduceAdd, Nat.reduceMul, Nat.reduceSub, Nat.reduceLeDiff, Int.reduceToNat, Int.reduceLT, Int.reduceLE, Int.reduceEq, Int.reduceNeg, Int.reduceSub, Int.reduceAdd, Int.reduceMul, stG_own] at c1 c2 c3 ⊢
  refine callF_of c1 ?_
  (refine ev ?_; try with_reducible exact trivial)
  refine callF_of c2 ?_
  (refine ev ?_; try with_reducible exact trivial)
  refine callF_of c3 ?_
  (refine ev ?_; try with_reducible exact trivial)
  refine callF_of c4 ?_
  (refine ev ?_; try with_reducible exact trivial)
end Go.Proofs

/-
  STEREONET: the laws on pixels and lower directions, given the chapter's examples. Own work.
-/
namespace Go.Proofs
open Go Go.Pi Go.RowKit Go.Ar Go.Ne

theorem firE_errN (n : Option (Int × Int)) (l : List S3) : firE n l = errN n l := rfl
theorem any_long {l : List S3} (h : (!l.any longS) = true) : ∀ v ∈ l, szS 12 v := fun v hv => by
  refine Classical.byContradiction fun hn => ?_
  have : l.any longS = true := List.any_eq_true.2 ⟨v, hv, dB_iff.2 hn⟩
  rw [this] at h; cases h
end Go.Proofs

/-
  STEREONET: the law on lower directions. Own work.
-/
namespace Go.Proofs
open Go Go.Pi Go.RowKit Go.Ar Go.Ne

set_option maxHeartbeats 8000000 in
theorem Tryz.stereonetLowers (hk : Con Tryz.prog Tryz.L 10 [] (.bool true)) (a b : S3) (ha : szS 1048576 a) (hb : szS 1048576 b) : Con Tryz.prog Tryz.L 4 [.agg (svD a), .agg (svD b)] (.bool true) := by
  have hm2 : ∀ {k : Nat}, szS k a → szS k b → ∀ x ∈ [a, b], szS k x := fun h1 h2 x hx => by
    simp only [List.mem_cons, List.not_mem_nil, or_false] at hx
    rcases hx with rfl | rfl
    · exact h1
    · exact h2
  have hbr := Tryz.lbrief [a, b] (by simp) (hm2 ha hb)
  refine rule4 Tryz.hL rfl rfl rfl ?_
  cases hbb : (!([a, b].any longS)) with
  | false =>
    rw [hbb] at hbr
    simp only [svD, pc4, rs4, oU, oC, evX, evY, evZ, forall_const, implies_true, initE, stepF, D.clean, mvF, moF, tkF, shF, ariF, ciF, catF, scF, ebF, eqF, eqOk, eqPr, enF, notF, ngF, cvF, csF, csbF, lenF, lenSF, ixF, iaF, PX.slot, iaAF, faF, ldF, D.mem, stF, bxF, mkSF, boundF, fldF, ixAF, mmF2, D.plain, D.isPure, optAll, D.dull, callVF, splice, D.cells, D.one, sets, resT, D.flat, D.flat0, D.simple, Nat.reduceBNe, Nat.reduceLT, reduceIte, Nat.reduceEqDiff, Nat.reduceAdd, Nat.reduceMul, Nat.reduceSub, Nat.reduceLeDiff, Int.reduceToNat, Int.reduceLT, Int.reduceLE, Int.reduceEq, Int.reduceNeg, Int.reduceSub, Int.reduceAdd, Int.reduceMul, stG_own] at hbr ⊢
    refine callF_of hk ?_
    (refine ev ?_; try with_reducible exact trivial)
    refine callF_of hbr ?_
    (refine ev ?_; try with_reducible exact trivial)
    refine callF_of hk ?_
    (refine ev ?_; try with_reducible exact trivial)
  | true =>
    have a12 := any_long hbb a (by simp)
    have b12 := any_long hbb b (by simp)
    rw [hbb] at hbr
    have hmo : ∀ {v : S3} {k : Nat}, szS 12 v → 12 ≤ k → szS k v := fun h hk => by obtain ⟨x, y, z⟩ := h; exact ⟨by omega, by omega, by omega⟩
    have cL := Tryz.sLower a (hmo a12 (by decide))
    have cS := Tryz.sSame a b (hmo a12 (by decide)) (hmo b12 (by decide))
    have f1 := Tryz.lfirstN [a] (by simp) (fun x hx => (List.mem_singleton.1 hx) ▸ hmo a12 (by decide))
    have f2 := Tryz.lfirstN [a, b] (by simp) (hm2 (hmo a12 (by decide)) (hmo b12 (by decide)))
    rw [firE_errN] at f1 f2
    have hlw := fun (h0 : errN none [a] = 0) => by
      have e6 := (errNn_0.1 h0).1 a (by simp)
      have := Tryz.llower (val3 a) ((val3_sz e6 (hmo a12 (by decide) : szS 200 a)).more (by decide))
      rw [← val3_tx e6] at this
      exact this
    have hcr := fun (h0 : errN none [a, b] = 0) => by
      have e6 := (errNn_0.1 h0).1 a (by simp)
      have e7 := (errNn_0.1 h0).1 b (by simp)
      have := Tryz.kcross (val3 a) (val3 b) ((val3_sz e6 (hmo a12 (by decide) : szS 200 a)).more (by decide)) ((val3_sz e7 (hmo b12 (by decide) : szS 200 b)).more (by decide))
      rw [← val3_tx e6, ← val3_tx e7] at this
      exact this
    have hze := Tryz.kzero (tx3 (crs3 (val3 a) (val3 b)))
    rw [zS_tx] at hze
    unfold lowR at cL
    unfold sameR at cS
    generalize errN none [a] = e at *
    generalize errN none [a, b] = f at *
    generalize zer3 (crs3 (val3 a) (val3 b)) = z at *
    generalize tx3 (crs3 (val3 a) (val3 b)) = w at *
    generalize tx3 (low3 (val3 a)) = u at *
    simp only [svD, pc4, rs4, oU, oC, evX, evY, evZ, forall_const, implies_true, initE, stepF, D.clean, mvF, moF, tkF, shF, ariF, ciF, catF, scF, ebF, eqF, eqOk, eqPr, enF, notF, ngF, cvF, csF, csbF, lenF, lenSF, ixF, iaF, PX.slot, iaAF, faF, ldF, D.mem, stF, bxF, mkSF, boundF, fldF, ixAF, mmF2, D.plain, D.isPure, optAll, D.dull, callVF, splice, D.cells, D.one, sets, resT, D.flat, D.flat0, D.simple, Nat.reduceBNe, Nat.reduceLT, reduceIte, Nat.reduceEqDiff, Nat.reduceAdd, Nat.reduceMul, Nat.reduceSub, Nat.reduceLeDiff, Int.reduceToNat, Int.reduceLT, Int.reduceLE, Int.reduceEq, Int.reduceNeg, Int.reduceSub, Int.reduceAdd, Int.reduceMul, stG_own] at hbr cL cS f1 f2 hlw hcr hze ⊢
    refine callF_of hk ?_
    (refine ev ?_; try with_reducible exact trivial)
    refine callF_of hbr ?_
    (refine ev ?_; try with_reducible exact trivial)
    refine callF_of cL ?_
    by_cases he : e = 0 <;> by_cases hf : f = 0
    · rw [if_pos he]
      rw [if_pos hf] at cS
      replace hlw := hlw he
      replace hcr := hcr hf
      subst he; subst hf
      simp only [evX, evY, evZ, forall_const, implies_true, initE, stepF, D.clean, mvF, moF, tkF, shF, ariF, ciF, catF, scF, ebF, eqF, eqOk, eqPr, enF, notF, ngF, cvF, csF, csbF, lenF, lenSF, ixF, iaF, PX.slot, iaAF, faF, ldF, D.mem, stF, bxF, mkSF, boundF, fldF, ixAF, mmF2, D.plain, D.isPure, optAll, D.dull, callVF, splice, D.cells, D.one, sets, resT, D.flat, D.flat0, D.simple, Nat.reduceBNe, Nat.reduceLT, reduceIte, Nat.reduceEqDiff, Nat.reduceAdd, Nat.reduceMul, Nat.reduceSub, Nat.reduceLeDiff, Int.reduceToNat, Int.reduceLT, Int.reduceLE, Int.reduceEq, Int.reduceNeg, Int.reduceSub, Int.reduceAdd, Int.reduceMul, stG_own] at cS ⊢
      refine callF_of cS ?_
      (refine ev ?_; try with_reducible exact trivial)
      refine callF_of f1 ?_
      (refine ev ?_; try with_reducible exact trivial)
      refine callF_of hlw ?_
      (refine ev ?_; try with_reducible exact trivial)
      refine callF_of f2 ?_
      (refine ev ?_; try with_reducible exact trivial)
      refine callF_of hcr ?_
      (refine ev ?_; try with_reducible exact trivial)
      refine callF_of hze ?_
      (refine ev ?_; try with_reducible exact trivial)
      exact beq_self_eq_true z
    · rw [if_pos he]
      rw [if_neg hf] at cS
      replace hlw := hlw he
      subst he
      simp only [evX, evY, evZ, forall_const, implies_true, initE, stepF, D.clean, mvF, moF, tkF, shF, ariF, ciF, catF, scF, ebF, eqF, eqOk, eqPr, enF, notF, ngF, cvF, csF, csbF, lenF, lenSF, ixF, iaF, PX.slot, iaAF, faF, ldF, D.mem, stF, bxF, mkSF, boundF, fldF, ixAF, mmF2, D.plain, D.isPure, optAll, D.dull, callVF, splice, D.cells, D.one, sets, resT, D.flat, D.flat0, D.simple, Nat.reduceBNe, Nat.reduceLT, reduceIte, Nat.reduceEqDiff, Nat.reduceAdd, Nat.reduceMul, Nat.reduceSub, Nat.reduceLeDiff, Int.reduceToNat, Int.reduceLT, Int.reduceLE, Int.reduceEq, Int.reduceNeg, Int.reduceSub, Int.reduceAdd, Int.reduceMul, stG_own] at cS ⊢
      refine callF_of cS ?_
      (refine ev ?_; try with_reducible exact trivial)
      refine callF_of f1 ?_
      (refine ev ?_; try with_reducible exact trivial)
      refine callF_of hlw ?_
      (refine ev ?_; try with_reducible exact trivial)
      refine callF_of f2 ?_
      (refine ev ?_; try with_reducible exact trivial)
      exact fun h => absurd hf h
    · rw [if_neg he]
      rw [if_pos hf] at cS
      replace hcr := hcr hf
      subst hf
      simp only [evX, evY, evZ, forall_const, implies_true, initE, stepF, D.clean, mvF, moF, tkF, shF, ariF, ciF, catF, scF, ebF, eqF, eqOk, eqPr, enF, notF, ngF, cvF, csF, csbF, lenF, lenSF, ixF, iaF, PX.slot, iaAF, faF, ldF, D.mem, stF, bxF, mkSF, boundF, fldF, ixAF, mmF2, D.plain, D.isPure, optAll, D.dull, callVF, splice, D.cells, D.one, sets, resT, D.flat, D.flat0, D.simple, Nat.reduceBNe, Nat.reduceLT, reduceIte, Nat.reduceEqDiff, Nat.reduceAdd, Nat.reduceMul, Nat.reduceSub, Nat.reduceLeDiff, Int.reduceToNat, Int.reduceLT, Int.reduceLE, Int.reduceEq, Int.reduceNeg, Int.reduceSub, Int.reduceAdd, Int.reduceMul, stG_own] at cS ⊢
      refine callF_of cS ?_
      (refine ev ?_; try with_reducible exact trivial)
      refine callF_of f1 ?_
      (refine ev ?_; try with_reducible exact trivial)
      refine ⟨fun _ => ?_, fun h => absurd he h⟩
      refine callF_of f2 ?_
      (refine ev ?_; try with_reducible exact trivial)
      refine callF_of hcr ?_
      (refine ev ?_; try with_reducible exact trivial)
      refine callF_of hze ?_
      (refine ev ?_; try with_reducible exact trivial)
      exact beq_self_eq_true z
    · rw [if_neg he]
      rw [if_neg hf] at cS
      simp only [evX, evY, evZ, forall_const, implies_true, initE, stepF, D.clean, mvF, moF, tkF, shF, ariF, ciF, catF, scF, ebF, eqF, eqOk, eqPr, enF, notF, ngF, cvF, csF, csbF, lenF, lenSF, ixF, iaF, PX.slot, iaAF, faF, ldF, D.mem, stF, bxF, mkSF, boundF, fldF, ixAF, mmF2, D.plain, D.isPure, optAll, D.dull, callVF, splice, D.cells, D.one, sets, resT, D.flat, D.flat0, D.simple, Nat.reduceBNe, Nat.reduceLT, reduceIte, Nat.reduceEqDiff, Nat.reduceAdd, Nat.reduceMul, Nat.reduceSub, Nat.reduceLeDiff, Int.reduceToNat, Int.reduceLT, Int.reduceLE, Int.reduceEq, Int.reduceNeg, Int.reduceSub, Int.reduceAdd, Int.reduceMul, stG_own] at cS ⊢
      refine callF_of cS ?_
      (refine ev ?_; try with_reducible exact trivial)
      refine callF_of f1 ?_
      (refine ev ?_; try with_reducible exact trivial)
      refine ⟨fun _ => ?_, fun h => absurd he h⟩
      refine callF_of f2 ?_
      (refine ev ?_; try with_reducible exact trivial)
      exact fun h => absurd hf h
end Go.Proofs
