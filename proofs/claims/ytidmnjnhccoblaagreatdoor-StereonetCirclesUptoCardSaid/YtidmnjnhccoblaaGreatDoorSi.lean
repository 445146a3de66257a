/-
  STEREONET: the chapter's examples: known() is true. Own work.
-/
import Derived.Test.YtidmnjnhccoblaaGreatDoorPj
import Derived.Test.YtidmnjnhccoblaaGreatDoorSh
import Derived.Test.YtidmnjnhccoblaaGreatDoorEh
import Derived.Test.YtidmnjnhccoblaaGreatDoorSg
set_option linter.unusedVariables false
set_option linter.unusedSimpArgs false
namespace Go.Proofs
open Go Go.Pi Go.RowKit Go.Ar Go.Ne

theorem val_of (q : Rat) (h : rd q ≤ 200) : val (rt q) = q := by
  have := val_rt (s := rt q) ⟨q, rfl, h⟩
  exact (rt_inj this).symm
theorem px_one : pixV false 100 (1, 0, -1) = (41, 0) := by decide +kernel
theorem px_two : pixV true 100 (1, 0, 1) = (-54, 0) := by decide +kernel
theorem px_down : pixV false 1 (0, 0, -1) = (0, 0) := by decide +kernel
theorem rt_p0 : rt 0 = [48] := zero_txt
theorem rt_p1 : rt 1 = [49] := by kernel_rfl
theorem rd_01 : rd (0 : Rat) ≤ 200 ∧ rd (1 : Rat) ≤ 200 ∧ rd (-1 : Rat) ≤ 200 := ⟨by rw [show (0 : Rat) = ((0 : Int) : Rat) from rfl]; exact Nat.le_trans (rd_int (k := 1) (by decide) (by decide)) (by decide), by rw [show (1 : Rat) = ((1 : Int) : Rat) from rfl]; exact Nat.le_trans (rd_int (k := 1) (by decide) (by decide)) (by decide), Nat.le_trans rd_m1 (by decide)⟩
theorem vl_0 : val [48] = 0 := by rw [← rt_p0]; exact val_of 0 rd_01.1
theorem vl_1 : val [49] = 1 := by rw [← rt_p1]; exact val_of 1 rd_01.2.1
theorem vl_m1 : val [45, 49] = -1 := by rw [← rt_m1]; exact val_of (-1) rd_01.2.2
theorem ok_0 : okR [48] := ⟨0, rt_p0.symm, rd_01.1⟩
theorem ok_1 : okR [49] := ⟨1, rt_p1.symm, rd_01.2.1⟩
theorem ok_m1 : okR [45, 49] := ⟨-1, rt_m1.symm, rd_01.2.2⟩
theorem Tryz.kpix1 : pixR 1 100 ([49], [48], [45, 49]) = .tup [.agg [.int .i64 41, .int .i64 0], .int .i64 0] := by
  unfold pixR
  rw [if_pos (errN_0.2 ⟨fun v hv => by rw [List.mem_singleton.1 hv]; exact ⟨ok_1, ok_0, ok_m1⟩, by decide, by decide⟩)]
  have e : val3 ([49], [48], [45, 49]) = (1, 0, -1) := by simp only [val3, vl_0, vl_1, vl_m1]
  have ea : areaB 1 = false := rfl
  rw [e, ea, show (100 : Int).toNat = 100 from rfl, px_one]
  rfl
theorem Tryz.kpix2 : pixR 2 100 ([49], [48], [49]) = .tup [.agg [.int .i64 (-54), .int .i64 0], .int .i64 0] := by
  unfold pixR
  rw [if_pos (errN_0.2 ⟨fun v hv => by rw [List.mem_singleton.1 hv]; exact ⟨ok_1, ok_0, ok_1⟩, by decide, by decide⟩)]
  have e : val3 ([49], [48], [49]) = (1, 0, 1) := by simp only [val3, vl_0, vl_1]
  have ea : areaB 2 = true := rfl
  rw [e, ea, show (100 : Int).toNat = 100 from rfl, px_two]
  rfl
def dn : S3 := ([48], [48], [45, 49])
theorem Tryz.kpic : picR 1 1 [dn, dn] = .tup [.sl 3 [.str [32, 46, 32], .str [46, 50, 46], .str [32, 46, 32]], .int .i64 0] := by
  have hz : zerE [dn, dn] = 0 := by decide
  have hn : numE [dn, dn] = 0 := num_0.2 (fun v hv => by
    have : v = dn := by simpa using hv
    rw [this]; exact ⟨ok_0, ok_0, ok_m1⟩)
  have he : picE 1 1 [dn, dn] = 0 := by unfold picE; rw [hn, hz]; decide
  unfold picR
  rw [if_pos he]
  have hp : ∀ i, i < 2 → pxs 1 1 [dn, dn] i = (0, 0) := fun i hi => by
    have e : val3 dn = (0, 0, -1) := by simp only [val3, dn, vl_0, vl_m1]
    have : [dn, dn].getD i ([], [], []) = dn := by
      match i, hi with
      | 0, _ => rfl
      | 1, _ => rfl
    unfold pxs
    rw [this, e]
    exact px_down
  have hc : cntP (pxs 1 (1 : Int).toNat [dn, dn]) [dn, dn].length = fun c r => if c = 0 ∧ r = 0 then 2 else 0 := by
    funext c r
    show cntP (pxs 1 1 [dn, dn]) 2 c r = _
    simp only [cntP, hp 0 (by decide), hp 1 (by decide)]
    split <;> simp_all
  rw [hc]
  rfl
set_option maxHeartbeats 4000000 in
theorem Tryz.eqStr3 (x y z : List UInt8) : Con Tryz.prog Tryz.L 37 [.sl 3 [.str x, .str y, .str z], .sl 3 [.str x, .str y, .str z]] (.bool true) := by
  refine rule37 Tryz.hL rfl rfl rfl ?_
  (simp only [pc37, rs37, oU, oC]; refine ev ?_; try with_reducible exact trivial)
  refine loopF_of (fun E => ∃ k : Nat, k ≤ 3 ∧ E = [(0, .sl 3 [.str x, .str y, .str z]), (1, .sl 3 [.str x, .str y, .str z]), (12, .int .i64 3), (13, .int .i64 k)])
    (fun E => match lk E 13 with | .int _ i => 3 - i.toNat | _ => 0) ⟨0, by omega, rfl⟩ ?_
  rintro _ ⟨k, hk, rfl⟩
  obtain rfl | rfl | rfl | rfl : k = 0 ∨ k = 1 ∨ k = 2 ∨ k = 3 := by omega
  · (refine ev ?_; try with_reducible exact trivial)
    exact fun _ => ⟨⟨by decide, by decide⟩, ⟨by decide, by decide⟩, ⟨by decide, by decide⟩, ⟨1, by omega, rfl⟩, by decide⟩
  · (refine ev ?_; try with_reducible exact trivial)
    exact fun _ => ⟨⟨by decide, by decide⟩, ⟨by decide, by decide⟩, ⟨by decide, by decide⟩, ⟨2, by omega, rfl⟩, by decide⟩
  · (refine ev ?_; try with_reducible exact trivial)
    exact fun _ => ⟨⟨by decide, by decide⟩, ⟨by decide, by decide⟩, ⟨by decide, by decide⟩, ⟨3, by omega, rfl⟩, by decide⟩
  · (refine ev ?_; try with_reducible exact trivial)
    exact fun h => absurd h (by omega)
set_option maxRecDepth 100000 in
set_option maxHeartbeats 4000000 in
theorem Tryz.known18 : Con Tryz.prog Tryz.L 10 [] (.bool true) := by
  have c1 := Tryz.sPixel 1 100 ([49], [48], [45, 49]) ⟨by decide, by decide, by decide⟩
  have c2 := Tryz.sPixel 2 100 ([49], [48], [49]) ⟨by decide, by decide, by decide⟩
  have c3 := Tryz.spicture 1 1 [dn, dn] (by decide) (fun v hv => by
    have : v = dn := by simpa using hv
    rw [this]; exact ⟨by decide, by decide, by decide⟩)
  rw [Tryz.kpix1] at c1
  rw [Tryz.kpix2] at c2
  rw [Tryz.kpic] at c3
  have c4 := Tryz.eqStr3 [32, 46, 32] [46, 50, 46] [32, 46, 32]
  have e3 : svs [dn, dn] = [.str [48], .str [48], .str [45, 49], .str [48], .str [48], .str [45, 49]] := rfl
  rw [lS, e3] at c3
  refine rule10 Tryz.hL rfl rfl rfl ?_
  simp only [netD, svD, pc10, rs10, oU, oC, evX, evY, evZ, forall_const, implies_true, initE, stepF, D.clean, mvF, moF, tkF, shF, ariF, ciF, catF, scF, ebF, eqF, eqOk, eqPr, enF, notF, ngF, cvF, csF, csbF, lenF, lenSF, ixF, iaF, PX.slot, iaAF, faF, ldF, D.mem, stF, bxF, mkSF, boundF, fldF, ixAF, mmF2, D.plain, D.isPure, optAll, D.dull, callVF, splice, D.cells, D.one, sets, resT, D.flat, D.flat0, D.simple, Nat.reduceBNe, Nat.reduceLT, reduceIte, Nat.reduceEqDiff, Nat.reduceAdd, Nat.reduceMul, Nat.reduceSub, Nat.reduceLeDiff, Int.reduceToNat, Int.reduceLT, Int.reduceLE, Int.reduceEq, Int.reduceNeg, Int.reduceSub, Int.reduceAdd, Int.reduceMul, stG_own] at c1 c2 c3 ⊢
  refine callF_of c1 ?_
  (refine ev ?_; try with_reducible exact trivial)
  refine callF_of c2 ?_
  (refine ev ?_; try with_reducible exact trivial)
  refine callF_of c3 ?_
  (refine ev ?_; try with_reducible exact trivial)
  refine callF_of c4 ?_
  (refine ev ?_; try with_reducible exact trivial)
end Go.Proofs

/-
  STEREONET: the laws on pixels and lower directions, given the chapter's examples. Own work.
-/
namespace Go.Proofs
open Go Go.Pi Go.RowKit Go.Ar Go.Ne

theorem firE_errN (n : Option (Int × Int)) (l : List S3) : firE n l = errN n l := rfl
theorem any_long {l : List S3} (h : (!l.any longS) = true) : ∀ v ∈ l, szS 12 v := fun v hv => by
  refine Classical.byContradiction fun hn => ?_
  have : l.any longS = true := List.any_eq_true.2 ⟨v, hv, dB_iff.2 hn⟩
  rw [this] at h; cases h
end Go.Proofs

/-
  STEREONET: Circle, and the law's way. Own work.
-/
namespace Go.Ne
def axA (V : V3) : V3 := if zer3 (-V.2.1, V.1, 0) = true then (1, 0, 0) else (-V.2.1, V.1, 0)
def axB (V : V3) : V3 := low3 (crs3 V (axA V))
def way1 (V : V3) (n i : Nat) : V3 := add3 (sc3 (axA V) (((n : Int) - i : Int) : Rat)) (sc3 (axB V) ((i : Int) : Rat))
def way2 (V : V3) (n i : Nat) : V3 := add3 (sc3 (axB V) (((n : Int) - i - 1 : Int) : Rat)) (sc3 (axA V) ((-(i : Int) - 1 : Int) : Rat))
def ways1 (V : V3) (n j : Nat) : List V3 := (List.range j).map (way1 V n)
def ways2 (V : V3) (n j : Nat) : List V3 := ways1 V n (n + 1) ++ (List.range j).map (way2 V n)
theorem ways1_succ (V : V3) (n j : Nat) : ways1 V n (j + 1) = ways1 V n j ++ [way1 V n j] := by simp [ways1, List.range_succ]
theorem ways2_succ (V : V3) (n j : Nat) : ways2 V n (j + 1) = ways2 V n j ++ [way2 V n j] := by simp [ways2, List.range_succ]
theorem ways2_zero (V : V3) (n : Nat) : ways2 V n 0 = ways1 V n (n + 1) := by simp [ways2]
theorem ways1_len (V : V3) (n j : Nat) : (ways1 V n j).length = j := by simp [ways1]
theorem ways2_len (V : V3) (n j : Nat) : (ways2 V n j).length = n + 1 + j := by simp [ways2, ways1]
end Go.Ne
namespace Go.Proofs
open Go Go.Pi Go.RowKit Go.Ar Go.Ne

def pxC (p : Int × Int) : List D := [.int .i64 p.1, .int .i64 p.2]
theorem pxC_len (p : Int × Int) : (pxC p).length = 2 := rfl
abbrev pxl (l : List (Int × Int)) : List D := rows pxC l
theorem pxl_len (l : List (Int × Int)) : (pxl l).length = l.length * 2 := rows_length pxC_len l
theorem pxl_snoc (l : List (Int × Int)) (x : Int × Int) : pxl (l ++ [x]) = pxl l ++ pxC x := rows_snoc
theorem sz_zero3 : Sz3 1 (1, 0, 0) := ⟨by have := rd_int (z := 1) (k := 1) (by decide) (by decide); exact this, by have := rd_int (z := 0) (k := 1) (by decide) (by decide); exact this, by have := rd_int (z := 0) (k := 1) (by decide) (by decide); exact this⟩
theorem sz_axA {V : V3} (h : Sz3 12 V) : Sz3 12 (axA V) := by
  unfold axA
  split
  · exact sz_zero3.more (by decide)
  · exact ⟨by show rd (-V.2.1) ≤ 12; rw [rd_neg]; exact h.2.1, h.1, by have := rd_int (z := 0) (k := 1) (by decide) (by decide); exact Nat.le_trans this (by decide)⟩
theorem sz_axB {V : V3} (h : Sz3 12 V) : Sz3 49 (axB V) := sz_low (sz_crs h (sz_axA h))
theorem sz_way1 {V : V3} (h : Sz3 12 V) {n i : Nat} (hn : n ≤ 6) (hi : i ≤ n) : Sz3 200 (way1 V n i) := by
  have r1 : rd ((((n : Int) - i : Int)) : Rat) ≤ 1 := rd_int (by decide) (by omega)
  have r2 : rd ((((i : Int))) : Rat) ≤ 1 := rd_int (by decide) (by omega)
  have := sz_add ((sz_sc (sz_axA h) r1).more (show 12 + 1 ≤ 50 by decide)) (sz_sc (sz_axB h) r2)
  exact this.more (by decide)
theorem sz_way2 {V : V3} (h : Sz3 12 V) {n i : Nat} (hn : n ≤ 6) (hi : i < n) : Sz3 200 (way2 V n i) := by
  have r1 : rd ((((n : Int) - i - 1 : Int)) : Rat) ≤ 1 := rd_int (by decide) (by omega)
  have r2 : rd (((-(i : Int) - 1 : Int)) : Rat) ≤ 1 := rd_int (by decide) (by omega)
  have := sz_add (sz_sc (sz_axB h) r1) ((sz_sc (sz_axA h) r2).more (show 12 + 1 ≤ 50 by decide))
  exact this.more (by decide)
noncomputable def circE (k R : Int) (v : S3) (n : Int) : Int := if errN (some (k, R)) [v] ≠ 0 then errN (some (k, R)) [v] else if n < 1 ∨ 100 < n then 3 else 0
noncomputable def circL (k R : Int) (v : S3) (n : Int) : List (Int × Int) := (ways2 (val3 v) n.toNat n.toNat).map (pixV (areaB k) R.toNat)
noncomputable def circR (k R : Int) (v : S3) (n : Int) : D := if circE k R v n = 0 then .tup [.sl (circL k R v n).length (pxl (circL k R v n)), .int .i64 0] else .tup [.sl 0 [], .int .i64 (circE k R v n)]
theorem circR_al (k R : Int) (v : S3) (n : Int) : aliasOf (circR k R v n) = none := by unfold circR; split <;> rfl
theorem rt_p1x : rt 1 = [49] := by kernel_rfl
def tA (A : V3) : S3 := (rt A.1, rt A.2.1, rt A.2.2)
theorem Tryz.vof100 : Con Tryz.prog Tryz.L 68 [.int .i64 1, .int .i64 0, .int .i64 0] (.agg (svD (tx3 (1, 0, 0)))) := by
  have c1 := Tryz.rwhole 1 (by rw [inR_i64]; omega)
  have c0 := Tryz.rwhole 0 (by rw [inR_i64]; omega)
  refine rule68 Tryz.hL rfl rfl rfl ?_
  simp only [pc68, rs68, oU, oC, tx3, svD, evX, evY, evZ, forall_const, implies_true, initE, stepF, D.clean, mvF, moF, tkF, shF, ariF, ciF, catF, scF, ebF, eqF, eqOk, eqPr, enF, notF, ngF, cvF, csF, csbF, lenF, lenSF, ixF, iaF, PX.slot, iaAF, faF, ldF, D.mem, stF, bxF, mkSF, boundF, fldF, ixAF, mmF2, D.plain, D.isPure, optAll, D.dull, callVF, splice, D.cells, D.one, sets, resT, D.flat, D.flat0, D.simple, Nat.reduceBNe, Nat.reduceLT, reduceIte, Nat.reduceEqDiff, Nat.reduceAdd, Nat.reduceMul, Nat.reduceSub, Nat.reduceLeDiff, Int.reduceToNat, Int.reduceLT, Int.reduceLE, Int.reduceEq, Int.reduceNeg, Int.reduceSub, Int.reduceAdd, Int.reduceMul, stG_own]
  refine callF_of c1 ?_
  (refine ev ?_; try with_reducible exact trivial)
  refine callF_of c0 ?_
  (refine ev ?_; try with_reducible exact trivial)
  refine callF_of c0 ?_
  (refine ev ?_; try with_reducible exact trivial)
  rfl
set_option maxRecDepth 100000 in
set_option maxHeartbeats 8000000 in
theorem Tryz.scircle (k R : Int) (v : S3) (n : Int) (h : szS 12 v) (hn : n ≤ 6 ∨ 100 < n) : Con Tryz.prog Tryz.L 33 [netD k R, .agg (svD v), .int .i64 n] (circR k R v n) := by
  have hmo : ∀ {k : Nat}, 12 ≤ k → szS k v := fun hk => by obtain ⟨x, y, z⟩ := h; exact ⟨by omega, by omega, by omega⟩
  have ho := Tryz.sopen k R [v] (by simp) (fun x hx => (List.mem_singleton.1 hx) ▸ hmo (by decide))
  have hz := Tryz.szeros [v] (by simp)
  refine rule33 Tryz.hL (circR_al _ _ _ _) rfl rfl ?_
  simp only [netD, svD, pc33, rs33, oU, oC, evX, evY, evZ, forall_const, implies_true, initE, stepF, D.clean, mvF, moF, tkF, shF, ariF, ciF, catF, scF, ebF, eqF, eqOk, eqPr, enF, notF, ngF, cvF, csF, csbF, lenF, lenSF, ixF, iaF, PX.slot, iaAF, faF, ldF, D.mem, stF, bxF, mkSF, boundF, fldF, ixAF, mmF2, D.plain, D.isPure, optAll, D.dull, callVF, splice, D.cells, D.one, sets, resT, D.flat, D.flat0, D.simple, Nat.reduceBNe, Nat.reduceLT, reduceIte, Nat.reduceEqDiff, Nat.reduceAdd, Nat.reduceMul, Nat.reduceSub, Nat.reduceLeDiff, Int.reduceToNat, Int.reduceLT, Int.reduceLE, Int.reduceEq, Int.reduceNeg, Int.reduceSub, Int.reduceAdd, Int.reduceMul, stG_own] at ho ⊢
  refine callF_of ho ?_
  (refine ev ?_; try with_reducible exact trivial)
  unfold circR
  refine ⟨fun h1 => ?_, fun h1 => ?_⟩
  · have e : errN (some (k, R)) [v] = if numE [v] ≠ 0 then numE [v] else netE k R := by
      unfold errN
      simp only
      by_cases a : numE [v] = 0 <;> by_cases b : netE k R = 0 <;> simp [a, b] at h1 ⊢
    have e2 : circE k R v n = if numE [v] ≠ 0 then numE [v] else netE k R := by unfold circE; rw [e, if_pos h1]
    rw [e2, if_neg h1]
    rfl
  · have a : numE [v] = 0 := by
      by_cases a : numE [v] = 0
      · exact a
      · simp [a] at h1
    have b : netE k R = 0 := by simpa [a] using h1
    have e : errN (some (k, R)) [v] = zerE [v] := by
      unfold errN
      simp [a, b]
    refine callF_of hz ?_
    (refine ev ?_; try with_reducible exact trivial)
    refine ⟨fun h2 => ?_, fun h2 => ?_⟩
    · have e2 : circE k R v n = zerE [v] := by unfold circE; rw [e, if_pos h2]
      rw [e2, if_neg h2]
      rfl
    · have e3 : errN (some (k, R)) [v] = 0 := by rw [e]; exact Classical.not_not.1 h2
      obtain ⟨k1, ⟨k2, k3, k4⟩, k5⟩ := errN_0.1 e3
      have e6 := k1 v (by simp)
      obtain ⟨M, rfl⟩ : ∃ M : Nat, R = M := ⟨R.toNat, by omega⟩
      have ev := val3_tx e6
      have hV : Sz3 12 (val3 v) := val3_sz e6 h
      unfold circL
      generalize val3 v = V at *
      subst ev
      by_cases hs : n < 1 ∨ 100 < n
      · have e2 : circE k M (tx3 V) n = 3 := by unfold circE; rw [e3, if_neg (by decide), if_pos hs]
        rw [e2, if_neg (by decide)]
        exact ⟨fun h3 => ⟨fun h4 => rfl, fun h4 => by omega⟩, fun h3 => rfl⟩
      · have e2 : circE k M (tx3 V) n = 0 := by unfold circE; rw [e3, if_neg (by decide), if_neg hs]
        rw [e2, if_pos rfl]
        refine ⟨fun _ => ⟨fun h4 => by omega, fun _ => ?_⟩, fun h3 => by omega⟩
        obtain ⟨N, rfl⟩ : ∃ N : Nat, n = N := ⟨n.toNat, by omega⟩
        have hN : 1 ≤ N ∧ N ≤ 6 := by omega
        clear ho hz h1 h2 e e3 k1 e2 hs hn hmo h k5 e6 a b
        rw [show ((M : Int)).toNat = M by omega, show ((N : Int)).toNat = N by omega]
        have cN := Tryz.rneg V.2.1 (by have := hV.2.1; omega)
        have cZ := Tryz.szero (tx3 (-V.2.1, V.1, 0))
        rw [zS_tx] at cZ
        have cP := fun (v : V3) (hv : Sz3 200 v) => Tryz.spixel k M (by omega) (by omega) v hv
        have hr0 : tx3 V = (rt V.1, rt V.2.1, rt V.2.2) := rfl
        have hr2 : tx3 (-V.2.1, V.1, 0) = (rt (-V.2.1), rt V.1, [48]) := by rw [← zero_txt]; rfl
        simp only [hr0, hr2, svD, evX, evY, evZ, forall_const, implies_true, initE, stepF, D.clean, mvF, moF, tkF, shF, ariF, ciF, catF, scF, ebF, eqF, eqOk, eqPr, enF, notF, ngF, cvF, csF, csbF, lenF, lenSF, ixF, iaF, PX.slot, iaAF, faF, ldF, D.mem, stF, bxF, mkSF, boundF, fldF, ixAF, mmF2, D.plain, D.isPure, optAll, D.dull, callVF, splice, D.cells, D.one, sets, resT, D.flat, D.flat0, D.simple, Nat.reduceBNe, Nat.reduceLT, reduceIte, Nat.reduceEqDiff, Nat.reduceAdd, Nat.reduceMul, Nat.reduceSub, Nat.reduceLeDiff, Int.reduceToNat, Int.reduceLT, Int.reduceLE, Int.reduceEq, Int.reduceNeg, Int.reduceSub, Int.reduceAdd, Int.reduceMul, stG_own] at cZ ⊢
        refine callF_of cN ?_
        (refine ev ?_; try with_reducible exact trivial)
        refine callF_of cZ ?_
        have hsA := sz_axA hV
        by_cases hzz : zer3 (-V.2.1, V.1, 0) = true
        · rw [hzz]
          have hA : axA V = (1, 0, 0) := if_pos hzz
          rw [hA] at hsA
          have cO := Tryz.vof100
          simp only [tx3, svD, rt_p1x, zero_txt, evX, evY, evZ, forall_const, implies_true, initE, stepF, D.clean, mvF, moF, tkF, shF, ariF, ciF, catF, scF, ebF, eqF, eqOk, eqPr, enF, notF, ngF, cvF, csF, csbF, lenF, lenSF, ixF, iaF, PX.slot, iaAF, faF, ldF, D.mem, stF, bxF, mkSF, boundF, fldF, ixAF, mmF2, D.plain, D.isPure, optAll, D.dull, callVF, splice, D.cells, D.one, sets, resT, D.flat, D.flat0, D.simple, Nat.reduceBNe, Nat.reduceLT, reduceIte, Nat.reduceEqDiff, Nat.reduceAdd, Nat.reduceMul, Nat.reduceSub, Nat.reduceLeDiff, Int.reduceToNat, Int.reduceLT, Int.reduceLE, Int.reduceEq, Int.reduceNeg, Int.reduceSub, Int.reduceAdd, Int.reduceMul, stG_own] at cO ⊢
          refine callF_of cO ?_
          have cC := Tryz.scross V (1, 0, 0) (hV.more (by decide)) (hsA.more (by decide))
          have cB := Tryz.slower (crs3 V (1, 0, 0)) ((sz_crs hV hsA).more (by decide))
          have hBe : axB V = low3 (crs3 V (1, 0, 0)) := by unfold axB; rw [hA]
          have hsB := sz_axB hV
          rw [hBe] at hsB
          have cM := fun (B : V3) (hB : Sz3 49 B) (a b : Int) (ha : a.natAbs < 1000) (hb : b.natAbs < 1000) => Tryz.smix (1, 0, 0) B a b (hsA.more (by decide)) (hB.more (by decide)) ha hb
          have cM2 := fun (B : V3) (hB : Sz3 49 B) (a b : Int) (ha : a.natAbs < 1000) (hb : b.natAbs < 1000) => Tryz.smix B (1, 0, 0) a b (hB.more (by decide)) (hsA.more (by decide)) ha hb
          have w1 : ∀ i, way1 V N i = add3 (sc3 (1, 0, 0) (((N : Int) - i : Int) : Rat)) (sc3 (axB V) ((i : Int) : Rat)) := fun i => by unfold way1; rw [hA]
          have w2 : ∀ i, way2 V N i = add3 (sc3 (axB V) (((N : Int) - i - 1 : Int) : Rat)) (sc3 (1, 0, 0) ((-(i : Int) - 1 : Int) : Rat)) := fun i => by unfold way2; rw [hA]
          generalize crs3 V (1, 0, 0) = C at *
          rw [← hBe] at cB hsB
          generalize axB V = B at *
          have hr1 : ∀ v : V3, tx3 v = (rt v.1, rt v.2.1, rt v.2.2) := fun _ => rfl
          have cM' := cM B hsB
          have cM2' := cM2 B hsB
          clear cM cM2
          simp only [hr1, svD, rt_p1x, zero_txt, evX, evY, evZ, forall_const, implies_true, initE, stepF, D.clean, mvF, moF, tkF, shF, ariF, ciF, catF, scF, ebF, eqF, eqOk, eqPr, enF, notF, ngF, cvF, csF, csbF, lenF, lenSF, ixF, iaF, PX.slot, iaAF, faF, ldF, D.mem, stF, bxF, mkSF, boundF, fldF, ixAF, mmF2, D.plain, D.isPure, optAll, D.dull, callVF, splice, D.cells, D.one, sets, resT, D.flat, D.flat0, D.simple, Nat.reduceBNe, Nat.reduceLT, reduceIte, Nat.reduceEqDiff, Nat.reduceAdd, Nat.reduceMul, Nat.reduceSub, Nat.reduceLeDiff, Int.reduceToNat, Int.reduceLT, Int.reduceLE, Int.reduceEq, Int.reduceNeg, Int.reduceSub, Int.reduceAdd, Int.reduceMul, stG_own] at cC cB cM' cM2' cP
          (refine ev ?_; try with_reducible exact trivial)
          refine callF_of cC ?_
          (refine ev ?_; try with_reducible exact trivial)
          refine callF_of cB ?_
          (refine ev ?_; try with_reducible exact trivial)
          refine ⟨by omega, ?_⟩
          refine loopF_of (fun E => ∃ j : Nat, j ≤ N + 1 ∧ E = [(2, .int .i64 N), (3, .box true [.int .i64 k, .int .i64 M]), (10, .box true [.str [49], .str [48], .str [48]]), (11, .box true [.str (rt B.1), .str (rt B.2.1), .str (rt B.2.2)]), (12, .own true 30 ((ways1 V N j).map (pixV (areaB k) M)).length (pxl ((ways1 V N j).map (pixV (areaB k) M)))), (48, .int .i64 ((N : Int) + 1)), (49, .int .i64 j)])
            (fun E => match lk E 49 with | .int _ i => N + 1 - i.toNat | _ => 0) ⟨0, by omega, rfl⟩ ?_
          rintro _ ⟨j, hj, rfl⟩
          (refine ev ?_; try with_reducible exact trivial)
          refine ⟨fun h1 => ⟨⟨by omega, by omega⟩, ?_⟩, fun h1 => ?_⟩
          · have cm := cM' ((N : Int) - j) j (by omega) (by omega)
            rw [← w1 j] at cm
            have cp := cP (way1 V N j) (sz_way1 hV (by omega) (by omega))
            have hl1 := ways1_len V N j
            have hsu := ways1_succ V N j
            generalize way1 V N j = w at *
            simp only [pxD, hr1, evX, evY, evZ, forall_const, implies_true, initE, stepF, D.clean, mvF, moF, tkF, shF, ariF, ciF, catF, scF, ebF, eqF, eqOk, eqPr, enF, notF, ngF, cvF, csF, csbF, lenF, lenSF, ixF, iaF, PX.slot, iaAF, faF, ldF, D.mem, stF, bxF, mkSF, boundF, fldF, ixAF, mmF2, D.plain, D.isPure, optAll, D.dull, callVF, splice, D.cells, D.one, sets, resT, D.flat, D.flat0, D.simple, Nat.reduceBNe, Nat.reduceLT, reduceIte, Nat.reduceEqDiff, Nat.reduceAdd, Nat.reduceMul, Nat.reduceSub, Nat.reduceLeDiff, Int.reduceToNat, Int.reduceLT, Int.reduceLE, Int.reduceEq, Int.reduceNeg, Int.reduceSub, Int.reduceAdd, Int.reduceMul, stG_own] at cp cm
            refine callF_of cm ?_
            (refine ev ?_; try with_reducible exact trivial)
            refine callF_of cp ?_
            (refine ev ?_; try with_reducible exact trivial)
            refine ⟨by rw [List.length_map, hl1]; omega, by rw [List.length_map, hl1]; omega, ⟨by omega, by omega⟩, ⟨j + 1, by omega, ?_, by simp⟩, by omega⟩
            rw [hsu, List.map_append, List.map_cons, List.map_nil, pxl_snoc, List.length_append]
            rfl
          · obtain rfl : j = N + 1 := by omega
            refine loopF_of (fun E => ∃ j : Nat, j ≤ N ∧ E = [(2, .int .i64 N), (3, .box true [.int .i64 k, .int .i64 M]), (10, .box true [.str [49], .str [48], .str [48]]), (11, .box true [.str (rt B.1), .str (rt B.2.1), .str (rt B.2.2)]), (12, .own true 30 ((ways2 V N j).map (pixV (areaB k) M)).length (pxl ((ways2 V N j).map (pixV (areaB k) M)))), (65, .int .i64 N), (66, .int .i64 j)])
              (fun E => match lk E 66 with | .int _ i => N - i.toNat | _ => 0) ⟨0, by omega, by rw [ways2_zero]; rfl⟩ ?_
            rintro _ ⟨j, hj, rfl⟩
            (refine ev ?_; try with_reducible exact trivial)
            refine ⟨fun h1 => ⟨⟨by omega, by omega⟩, ⟨by omega, by omega⟩, ⟨by omega, by omega⟩, ⟨by omega, by omega⟩, ?_⟩, fun h1 => ?_⟩
            · have cm := cM2' ((N : Int) - j - 1) (-(j : Int) - 1) (by omega) (by omega)
              rw [← w2 j, show -(j : Int) - 1 = 0 - (j : Int) - 1 by omega] at cm
              have cp := cP (way2 V N j) (sz_way2 hV (by omega) (by omega))
              have hl1 := ways2_len V N j
              have hsu := ways2_succ V N j
              generalize way2 V N j = w at *
              simp only [pxD, hr1, evX, evY, evZ, forall_const, implies_true, initE, stepF, D.clean, mvF, moF, tkF, shF, ariF, ciF, catF, scF, ebF, eqF, eqOk, eqPr, enF, notF, ngF, cvF, csF, csbF, lenF, lenSF, ixF, iaF, PX.slot, iaAF, faF, ldF, D.mem, stF, bxF, mkSF, boundF, fldF, ixAF, mmF2, D.plain, D.isPure, optAll, D.dull, callVF, splice, D.cells, D.one, sets, resT, D.flat, D.flat0, D.simple, Nat.reduceBNe, Nat.reduceLT, reduceIte, Nat.reduceEqDiff, Nat.reduceAdd, Nat.reduceMul, Nat.reduceSub, Nat.reduceLeDiff, Int.reduceToNat, Int.reduceLT, Int.reduceLE, Int.reduceEq, Int.reduceNeg, Int.reduceSub, Int.reduceAdd, Int.reduceMul, stG_own] at cp cm
              refine callF_of cm ?_
              (refine ev ?_; try with_reducible exact trivial)
              refine callF_of cp ?_
              (refine ev ?_; try with_reducible exact trivial)
              refine ⟨by rw [List.length_map, hl1]; omega, by rw [List.length_map, hl1]; omega, ⟨by omega, by omega⟩, ⟨j + 1, by omega, ?_, by simp⟩, by omega⟩
              rw [hsu, List.map_append, List.map_cons, List.map_nil, pxl_snoc, List.length_append]
              rfl
            · obtain rfl : j = N := by omega
              rfl
        · have hzf : zer3 (-V.2.1, V.1, 0) = false := by simpa using hzz
          rw [hzf]
          have hA : axA V = (-V.2.1, V.1, 0) := if_neg hzz
          rw [hA] at hsA
          have cC := Tryz.scross V (-V.2.1, V.1, 0) (hV.more (by decide)) (hsA.more (by decide))
          have cB := Tryz.slower (crs3 V (-V.2.1, V.1, 0)) ((sz_crs hV hsA).more (by decide))
          have hBe : axB V = low3 (crs3 V (-V.2.1, V.1, 0)) := by unfold axB; rw [hA]
          have hsB := sz_axB hV
          rw [hBe] at hsB
          have cM := fun (B : V3) (hB : Sz3 49 B) (a b : Int) (ha : a.natAbs < 1000) (hb : b.natAbs < 1000) => Tryz.smix (-V.2.1, V.1, 0) B a b (hsA.more (by decide)) (hB.more (by decide)) ha hb
          have cM2 := fun (B : V3) (hB : Sz3 49 B) (a b : Int) (ha : a.natAbs < 1000) (hb : b.natAbs < 1000) => Tryz.smix B (-V.2.1, V.1, 0) a b (hB.more (by decide)) (hsA.more (by decide)) ha hb
          have w1 : ∀ i, way1 V N i = add3 (sc3 (-V.2.1, V.1, 0) (((N : Int) - i : Int) : Rat)) (sc3 (axB V) ((i : Int) : Rat)) := fun i => by unfold way1; rw [hA]
          have w2 : ∀ i, way2 V N i = add3 (sc3 (axB V) (((N : Int) - i - 1 : Int) : Rat)) (sc3 (-V.2.1, V.1, 0) ((-(i : Int) - 1 : Int) : Rat)) := fun i => by unfold way2; rw [hA]
          generalize crs3 V (-V.2.1, V.1, 0) = C at *
          rw [← hBe] at cB hsB
          generalize axB V = B at *
          have hr1 : ∀ v : V3, tx3 v = (rt v.1, rt v.2.1, rt v.2.2) := fun _ => rfl
          have cM' := cM B hsB
          have cM2' := cM2 B hsB
          clear cM cM2
          simp only [hr1, svD, rt_p1x, zero_txt, evX, evY, evZ, forall_const, implies_true, initE, stepF, D.clean, mvF, moF, tkF, shF, ariF, ciF, catF, scF, ebF, eqF, eqOk, eqPr, enF, notF, ngF, cvF, csF, csbF, lenF, lenSF, ixF, iaF, PX.slot, iaAF, faF, ldF, D.mem, stF, bxF, mkSF, boundF, fldF, ixAF, mmF2, D.plain, D.isPure, optAll, D.dull, callVF, splice, D.cells, D.one, sets, resT, D.flat, D.flat0, D.simple, Nat.reduceBNe, Nat.reduceLT, reduceIte, Nat.reduceEqDiff, Nat.reduceAdd, Nat.reduceMul, Nat.reduceSub, Nat.reduceLeDiff, Int.reduceToNat, Int.reduceLT, Int.reduceLE, Int.reduceEq, Int.reduceNeg, Int.reduceSub, Int.reduceAdd, Int.reduceMul, stG_own] at cC cB cM' cM2' cP
          (refine ev ?_; try with_reducible exact trivial)
          refine callF_of cC ?_
          (refine ev ?_; try with_reducible exact trivial)
          refine callF_of cB ?_
          (refine ev ?_; try with_reducible exact trivial)
          refine ⟨by omega, ?_⟩
          refine loopF_of (fun E => ∃ j : Nat, j ≤ N + 1 ∧ E = [(2, .int .i64 N), (3, .box true [.int .i64 k, .int .i64 M]), (10, .box true [.str (rt (-V.2.1)), .str (rt V.1), .str [48]]), (11, .box true [.str (rt B.1), .str (rt B.2.1), .str (rt B.2.2)]), (12, .own true 30 ((ways1 V N j).map (pixV (areaB k) M)).length (pxl ((ways1 V N j).map (pixV (areaB k) M)))), (48, .int .i64 ((N : Int) + 1)), (49, .int .i64 j)])
            (fun E => match lk E 49 with | .int _ i => N + 1 - i.toNat | _ => 0) ⟨0, by omega, rfl⟩ ?_
          rintro _ ⟨j, hj, rfl⟩
          (refine ev ?_; try with_reducible exact trivial)
          refine ⟨fun h1 => ⟨⟨by omega, by omega⟩, ?_⟩, fun h1 => ?_⟩
          · have cm := cM' ((N : Int) - j) j (by omega) (by omega)
            rw [← w1 j] at cm
            have cp := cP (way1 V N j) (sz_way1 hV (by omega) (by omega))
            have hl1 := ways1_len V N j
            have hsu := ways1_succ V N j
            generalize way1 V N j = w at *
            simp only [pxD, hr1, evX, evY, evZ, forall_const, implies_true, initE, stepF, D.clean, mvF, moF, tkF, shF, ariF, ciF, catF, scF, ebF, eqF, eqOk, eqPr, enF, notF, ngF, cvF, csF, csbF, lenF, lenSF, ixF, iaF, PX.slot, iaAF, faF, ldF, D.mem, stF, bxF, mkSF, boundF, fldF, ixAF, mmF2, D.plain, D.isPure, optAll, D.dull, callVF, splice, D.cells, D.one, sets, resT, D.flat, D.flat0, D.simple, Nat.reduceBNe, Nat.reduceLT, reduceIte, Nat.reduceEqDiff, Nat.reduceAdd, Nat.reduceMul, Nat.reduceSub, Nat.reduceLeDiff, Int.reduceToNat, Int.reduceLT, Int.reduceLE, Int.reduceEq, Int.reduceNeg, Int.reduceSub, Int.reduceAdd, Int.reduceMul, stG_own] at cp cm
            refine callF_of cm ?_
            (refine ev ?_; try with_reducible exact trivial)
            refine callF_of cp ?_
            (refine ev ?_; try with_reducible exact trivial)
            refine ⟨by rw [List.length_map, hl1]; omega, by rw [List.length_map, hl1]; omega, ⟨by omega, by omega⟩, ⟨j + 1, by omega, ?_, by simp⟩, by omega⟩
            rw [hsu, List.map_append, List.map_cons, List.map_nil, pxl_snoc, List.length_append]
            rfl
          · obtain rfl : j = N + 1 := by omega
            refine loopF_of (fun E => ∃ j : Nat, j ≤ N ∧ E = [(2, .int .i64 N), (3, .box true [.int .i64 k, .int .i64 M]), (10, .box true [.str (rt (-V.2.1)), .str (rt V.1), .str [48]]), (11, .box true [.str (rt B.1), .str (rt B.2.1), .str (rt B.2.2)]), (12, .own true 30 ((ways2 V N j).map (pixV (areaB k) M)).length (pxl ((ways2 V N j).map (pixV (areaB k) M)))), (65, .int .i64 N), (66, .int .i64 j)])
              (fun E => match lk E 66 with | .int _ i => N - i.toNat | _ => 0) ⟨0, by omega, by rw [ways2_zero]; rfl⟩ ?_
            rintro _ ⟨j, hj, rfl⟩
            (refine ev ?_; try with_reducible exact trivial)
            refine ⟨fun h1 => ⟨⟨by omega, by omega⟩, ⟨by omega, by omega⟩, ⟨by omega, by omega⟩, ⟨by omega, by omega⟩, ?_⟩, fun h1 => ?_⟩
            · have cm := cM2' ((N : Int) - j - 1) (-(j : Int) - 1) (by omega) (by omega)
              rw [← w2 j, show -(j : Int) - 1 = 0 - (j : Int) - 1 by omega] at cm
              have cp := cP (way2 V N j) (sz_way2 hV (by omega) (by omega))
              have hl1 := ways2_len V N j
              have hsu := ways2_succ V N j
              generalize way2 V N j = w at *
              simp only [pxD, hr1, evX, evY, evZ, forall_const, implies_true, initE, stepF, D.clean, mvF, moF, tkF, shF, ariF, ciF, catF, scF, ebF, eqF, eqOk, eqPr, enF, notF, ngF, cvF, csF, csbF, lenF, lenSF, ixF, iaF, PX.slot, iaAF, faF, ldF, D.mem, stF, bxF, mkSF, boundF, fldF, ixAF, mmF2, D.plain, D.isPure, optAll, D.dull, callVF, splice, D.cells, D.one, sets, resT, D.flat, D.flat0, D.simple, Nat.reduceBNe, Nat.reduceLT, reduceIte, Nat.reduceEqDiff, Nat.reduceAdd, Nat.reduceMul, Nat.reduceSub, Nat.reduceLeDiff, Int.reduceToNat, Int.reduceLT, Int.reduceLE, Int.reduceEq, Int.reduceNeg, Int.reduceSub, Int.reduceAdd, Int.reduceMul, stG_own] at cp cm
              refine callF_of cm ?_
              (refine ev ?_; try with_reducible exact trivial)
              refine callF_of cp ?_
              (refine ev ?_; try with_reducible exact trivial)
              refine ⟨by rw [List.length_map, hl1]; omega, by rw [List.length_map, hl1]; omega, ⟨by omega, by omega⟩, ⟨j + 1, by omega, ?_, by simp⟩, by omega⟩
              rw [hsu, List.map_append, List.map_cons, List.map_nil, pxl_snoc, List.length_append]
              rfl
            · obtain rfl : j = N := by omega
              rfl
end Go.Proofs

/-
  STEREONET: the law's way. Own work.
-/
namespace Go.Proofs
open Go Go.Pi Go.RowKit Go.Ar Go.Ne

theorem sc_neg_int (a : V3) (z : Int) : sc3 (sc3 a (z : Rat)) (-1) = sc3 a ((-z : Int) : Rat) := by
  unfold sc3
  rw [Rat.intCast_neg]
  ext <;> simp only [] <;> grind
set_option maxRecDepth 100000 in
set_option maxHeartbeats 8000000 in
theorem Tryz.lway (V : V3) (N : Nat) (hV : Sz3 12 V) (hN : 1 ≤ N ∧ N ≤ 6) : Con Tryz.prog Tryz.L 35 [.agg (svD (tx3 V)), .int .i64 N] (.own true 26 ((ways2 V N N).map tx3).length (svs ((ways2 V N N).map tx3))) := by
  have cN := Tryz.qneg V.2.1 (by have := hV.2.1; omega)
  have cZ := Tryz.kzero (tx3 (-V.2.1, V.1, 0))
  rw [zS_tx] at cZ
  have hr0 : tx3 V = (rt V.1, rt V.2.1, rt V.2.2) := rfl
  have hr2 : tx3 (-V.2.1, V.1, 0) = (rt (-V.2.1), rt V.1, [48]) := by rw [← zero_txt]; rfl
  have hr1 : ∀ v : V3, tx3 v = (rt v.1, rt v.2.1, rt v.2.2) := fun _ => rfl
  have hsA := sz_axA hV
  refine rule35 Tryz.hL rfl rfl rfl ?_
  simp only [hr0, hr2, svD, pc35, rs35, oU, oC, evX, evY, evZ, forall_const, implies_true, initE, stepF, D.clean, mvF, moF, tkF, shF, ariF, ciF, catF, scF, ebF, eqF, eqOk, eqPr, enF, notF, ngF, cvF, csF, csbF, lenF, lenSF, ixF, iaF, PX.slot, iaAF, faF, ldF, D.mem, stF, bxF, mkSF, boundF, fldF, ixAF, mmF2, D.plain, D.isPure, optAll, D.dull, callVF, splice, D.cells, D.one, sets, resT, D.flat, D.flat0, D.simple, Nat.reduceBNe, Nat.reduceLT, reduceIte, Nat.reduceEqDiff, Nat.reduceAdd, Nat.reduceMul, Nat.reduceSub, Nat.reduceLeDiff, Int.reduceToNat, Int.reduceLT, Int.reduceLE, Int.reduceEq, Int.reduceNeg, Int.reduceSub, Int.reduceAdd, Int.reduceMul, stG_own] at cZ ⊢
  refine callF_of cN ?_
  (refine ev ?_; try with_reducible exact trivial)
  refine callF_of cZ ?_
  by_cases hzz : zer3 (-V.2.1, V.1, 0) = true
  · rw [hzz]
    have hA : axA V = (1, 0, 0) := if_pos hzz
    rw [hA] at hsA
    have hx : rt V.1 = [48] := by
      have : (-V.2.1, V.1, (0 : Rat)) = (0, 0, 0) := of_decide_eq_true hzz
      simp only [Prod.mk.injEq] at this
      rw [this.2.1, zero_txt]
    rw [hx]
    have cC := Tryz.kcross V (1, 0, 0) (hV.more (by decide)) (hsA.more (by decide))
    have cB := Tryz.llower (crs3 V (1, 0, 0)) ((sz_crs hV hsA).more (by decide))
    have hBe : axB V = low3 (crs3 V (1, 0, 0)) := by unfold axB; rw [hA]
    have hsB := sz_axB hV
    rw [hBe] at hsB
    have kA := fun (q : Rat) (hq : rd q ≤ 1) => Tryz.kscale (1, 0, 0) q (hsA.more (by decide)) (by omega)
    have kB := fun (B : V3) (hB : Sz3 49 B) (q : Rat) (hq : rd q ≤ 1) => Tryz.kscale B q (hB.more (by decide)) (by omega)
    have zA := fun (q : Rat) (hq : rd q ≤ 1) => sz_sc hsA hq
    have kS := fun (x y : V3) (hx : Sz3 50 x) (hy : Sz3 50 y) => Tryz.kadd x y (hx.more (by decide)) (hy.more (by decide))
    have kD := fun (x y : V3) (hx : Sz3 50 x) (hy : Sz3 50 y) => Tryz.ksub x y (hx.more (by decide)) (hy.more (by decide))
    have w1 : ∀ i, way1 V N i = add3 (sc3 (1, 0, 0) (((N : Int) - i : Int) : Rat)) (sc3 (axB V) ((i : Int) : Rat)) := fun i => by unfold way1; rw [hA]
    have w2 : ∀ i, way2 V N i = add3 (sc3 (axB V) (((N : Int) - i - 1 : Int) : Rat)) (sc3 (1, 0, 0) ((-(i : Int) - 1 : Int) : Rat)) := fun i => by unfold way2; rw [hA]
    generalize crs3 V (1, 0, 0) = C at *
    rw [← hBe] at cB hsB
    generalize axB V = B at *
    have kB' := kB B hsB
    have zB := fun (q : Rat) (hq : rd q ≤ 1) => sz_sc hsB hq
    clear kB
    simp only [hr1, svD, rt_p1x, zero_txt, evX, evY, evZ, forall_const, implies_true, initE, stepF, D.clean, mvF, moF, tkF, shF, ariF, ciF, catF, scF, ebF, eqF, eqOk, eqPr, enF, notF, ngF, cvF, csF, csbF, lenF, lenSF, ixF, iaF, PX.slot, iaAF, faF, ldF, D.mem, stF, bxF, mkSF, boundF, fldF, ixAF, mmF2, D.plain, D.isPure, optAll, D.dull, callVF, splice, D.cells, D.one, sets, resT, D.flat, D.flat0, D.simple, Nat.reduceBNe, Nat.reduceLT, reduceIte, Nat.reduceEqDiff, Nat.reduceAdd, Nat.reduceMul, Nat.reduceSub, Nat.reduceLeDiff, Int.reduceToNat, Int.reduceLT, Int.reduceLE, Int.reduceEq, Int.reduceNeg, Int.reduceSub, Int.reduceAdd, Int.reduceMul, stG_own] at cC cB kA kB' kS kD
    (refine ev ?_; try with_reducible exact trivial)
    rw [hx] at cC
    refine callF_of cC ?_
    (refine ev ?_; try with_reducible exact trivial)
    refine callF_of cB ?_
    (refine ev ?_; try with_reducible exact trivial)
    refine ⟨by omega, ?_⟩
    refine loopF_of (fun E => ∃ j : Nat, j ≤ N + 1 ∧ E = [(1, .int .i64 N), (5, .box true [.str [49], .str [48], .str [48]]), (6, .box true [.str (rt B.1), .str (rt B.2.1), .str (rt B.2.2)]), (7, .own true 26 ((ways1 V N j).map tx3).length (svs ((ways1 V N j).map tx3))), (24, .int .i64 ((N : Int) + 1)), (25, .int .i64 j)])
      (fun E => match lk E 25 with | .int _ i => N + 1 - i.toNat | _ => 0) ⟨0, by omega, rfl⟩ ?_
    rintro _ ⟨j, hj, rfl⟩
    (refine ev ?_; try with_reducible exact trivial)
    refine ⟨fun h1 => ⟨⟨by omega, by omega⟩, ?_⟩, fun h1 => ?_⟩
    · have r1 : rd ((((N : Int) - j : Int)) : Rat) ≤ 1 := rd_int (by decide) (by omega)
      have r2 : rd ((((j : Int))) : Rat) ≤ 1 := rd_int (by decide) (by omega)
      have o1 := Tryz.qof1 ((N : Int) - j) (by rw [inR_i64]; omega)
      have o2 := Tryz.qof1 (j : Int) (by rw [inR_i64]; omega)
      have m1 := kA _ r1
      have m2 := kB' _ r2
      have m3 := kS _ _ ((zA _ r1).more (by decide)) ((zB _ r2).more (by decide))
      rw [← w1 j] at m3
      have hl1 := ways1_len V N j
      have hsu := ways1_succ V N j
      generalize way1 V N j = w at *
      generalize sc3 (1, 0, 0) (((N : Int) - j : Int) : Rat) = y1 at *
      generalize sc3 B ((j : Int) : Rat) = y2 at *
      refine callF_of o1 ?_
      (refine ev ?_; try with_reducible exact trivial)
      refine callF_of m1 ?_
      (refine ev ?_; try with_reducible exact trivial)
      refine callF_of o2 ?_
      (refine ev ?_; try with_reducible exact trivial)
      refine callF_of m2 ?_
      (refine ev ?_; try with_reducible exact trivial)
      refine callF_of m3 ?_
      (refine ev ?_; try with_reducible exact trivial)
      refine ⟨by rw [List.length_map, hl1]; omega, by rw [List.length_map, hl1]; omega, ⟨by omega, by omega⟩, ⟨j + 1, by omega, ?_, by simp⟩, by omega⟩
      rw [hsu, List.map_append, List.map_cons, List.map_nil, svs_snoc, List.length_append]
      rfl
    · obtain rfl : j = N + 1 := by omega
      refine loopF_of (fun E => ∃ j : Nat, j ≤ N ∧ E = [(1, .int .i64 N), (5, .box true [.str [49], .str [48], .str [48]]), (6, .box true [.str (rt B.1), .str (rt B.2.1), .str (rt B.2.2)]), (7, .own true 26 ((ways2 V N j).map tx3).length (svs ((ways2 V N j).map tx3))), (9, .int .i64 ((j : Int) + 1))])
        (fun E => match lk E 9 with | .int _ i => N + 1 - i.toNat | _ => 0) ⟨0, by omega, by rw [ways2_zero]; rfl⟩ ?_
      rintro _ ⟨j, hj, rfl⟩
      (refine ev ?_; try with_reducible exact trivial)
      refine ⟨fun h1 => ⟨⟨by omega, by omega⟩, ?_⟩, fun h1 => ?_⟩
      · have r1 : rd ((((N : Int) - ((j : Int) + 1) : Int)) : Rat) ≤ 1 := rd_int (by decide) (by omega)
        have r2 : rd ((((j : Int) + 1 : Int)) : Rat) ≤ 1 := rd_int (by decide) (by omega)
        have o1 := Tryz.qof1 ((N : Int) - ((j : Int) + 1)) (by rw [inR_i64]; omega)
        have o2 := Tryz.qof1 ((j : Int) + 1) (by rw [inR_i64]; omega)
        have m1 := kB' _ r1
        have m2 := kA _ r2
        have m3 := kD _ _ ((zB _ r1).more (by decide)) ((zA _ r2).more (by decide))
        rw [sc_neg_int, show (N : Int) - ((j : Int) + 1) = (N : Int) - j - 1 by omega, show -((j : Int) + 1) = -(j : Int) - 1 by omega, ← w2 j] at m3
        rw [show (N : Int) - ((j : Int) + 1) = (N : Int) - j - 1 by omega] at m1 o1 ⊢
        have hl1 := ways2_len V N j
        have hsu := ways2_succ V N j
        generalize way2 V N j = w at *
        generalize sc3 (1, 0, 0) (((j : Int) + 1 : Int) : Rat) = y1 at *
        generalize sc3 B (((N : Int) - j - 1 : Int) : Rat) = y2 at *
        refine callF_of o1 ?_
        (refine ev ?_; try with_reducible exact trivial)
        refine callF_of m1 ?_
        (refine ev ?_; try with_reducible exact trivial)
        refine callF_of o2 ?_
        (refine ev ?_; try with_reducible exact trivial)
        refine callF_of m2 ?_
        (refine ev ?_; try with_reducible exact trivial)
        refine callF_of m3 ?_
        (refine ev ?_; try with_reducible exact trivial)
        refine ⟨by rw [List.length_map, hl1]; omega, by rw [List.length_map, hl1]; omega, ⟨by omega, by omega⟩, ⟨j + 1, by omega, ?_, by simp⟩, by omega⟩
        rw [hsu, List.map_append, List.map_cons, List.map_nil, svs_snoc, List.length_append]
        rfl
      · obtain rfl : j = N := by omega
        rfl
  · have hzf : zer3 (-V.2.1, V.1, 0) = false := by simpa using hzz
    rw [hzf]
    have hA : axA V = (-V.2.1, V.1, 0) := if_neg hzz
    rw [hA] at hsA
    have cC := Tryz.kcross V (-V.2.1, V.1, 0) (hV.more (by decide)) (hsA.more (by decide))
    have cB := Tryz.llower (crs3 V (-V.2.1, V.1, 0)) ((sz_crs hV hsA).more (by decide))
    have hBe : axB V = low3 (crs3 V (-V.2.1, V.1, 0)) := by unfold axB; rw [hA]
    have hsB := sz_axB hV
    rw [hBe] at hsB
    have kA := fun (q : Rat) (hq : rd q ≤ 1) => Tryz.kscale (-V.2.1, V.1, 0) q (hsA.more (by decide)) (by omega)
    have kB := fun (B : V3) (hB : Sz3 49 B) (q : Rat) (hq : rd q ≤ 1) => Tryz.kscale B q (hB.more (by decide)) (by omega)
    have zA := fun (q : Rat) (hq : rd q ≤ 1) => sz_sc hsA hq
    have kS := fun (x y : V3) (hx : Sz3 50 x) (hy : Sz3 50 y) => Tryz.kadd x y (hx.more (by decide)) (hy.more (by decide))
    have kD := fun (x y : V3) (hx : Sz3 50 x) (hy : Sz3 50 y) => Tryz.ksub x y (hx.more (by decide)) (hy.more (by decide))
    have w1 : ∀ i, way1 V N i = add3 (sc3 (-V.2.1, V.1, 0) (((N : Int) - i : Int) : Rat)) (sc3 (axB V) ((i : Int) : Rat)) := fun i => by unfold way1; rw [hA]
    have w2 : ∀ i, way2 V N i = add3 (sc3 (axB V) (((N : Int) - i - 1 : Int) : Rat)) (sc3 (-V.2.1, V.1, 0) ((-(i : Int) - 1 : Int) : Rat)) := fun i => by unfold way2; rw [hA]
    generalize crs3 V (-V.2.1, V.1, 0) = C at *
    rw [← hBe] at cB hsB
    generalize axB V = B at *
    have kB' := kB B hsB
    have zB := fun (q : Rat) (hq : rd q ≤ 1) => sz_sc hsB hq
    clear kB
    simp only [hr1, svD, rt_p1x, zero_txt, evX, evY, evZ, forall_const, implies_true, initE, stepF, D.clean, mvF, moF, tkF, shF, ariF, ciF, catF, scF, ebF, eqF, eqOk, eqPr, enF, notF, ngF, cvF, csF, csbF, lenF, lenSF, ixF, iaF, PX.slot, iaAF, faF, ldF, D.mem, stF, bxF, mkSF, boundF, fldF, ixAF, mmF2, D.plain, D.isPure, optAll, D.dull, callVF, splice, D.cells, D.one, sets, resT, D.flat, D.flat0, D.simple, Nat.reduceBNe, Nat.reduceLT, reduceIte, Nat.reduceEqDiff, Nat.reduceAdd, Nat.reduceMul, Nat.reduceSub, Nat.reduceLeDiff, Int.reduceToNat, Int.reduceLT, Int.reduceLE, Int.reduceEq, Int.reduceNeg, Int.reduceSub, Int.reduceAdd, Int.reduceMul, stG_own] at cC cB kA kB' kS kD
    (refine ev ?_; try with_reducible exact trivial)
    refine callF_of cC ?_
    (refine ev ?_; try with_reducible exact trivial)
    refine callF_of cB ?_
    (refine ev ?_; try with_reducible exact trivial)
    refine ⟨by omega, ?_⟩
    refine loopF_of (fun E => ∃ j : Nat, j ≤ N + 1 ∧ E = [(1, .int .i64 N), (5, .box true [.str (rt (-V.2.1)), .str (rt V.1), .str [48]]), (6, .box true [.str (rt B.1), .str (rt B.2.1), .str (rt B.2.2)]), (7, .own true 26 ((ways1 V N j).map tx3).length (svs ((ways1 V N j).map tx3))), (24, .int .i64 ((N : Int) + 1)), (25, .int .i64 j)])
      (fun E => match lk E 25 with | .int _ i => N + 1 - i.toNat | _ => 0) ⟨0, by omega, rfl⟩ ?_
    rintro _ ⟨j, hj, rfl⟩
    (refine ev ?_; try with_reducible exact trivial)
    refine ⟨fun h1 => ⟨⟨by omega, by omega⟩, ?_⟩, fun h1 => ?_⟩
    · have r1 : rd ((((N : Int) - j : Int)) : Rat) ≤ 1 := rd_int (by decide) (by omega)
      have r2 : rd ((((j : Int))) : Rat) ≤ 1 := rd_int (by decide) (by omega)
      have o1 := Tryz.qof1 ((N : Int) - j) (by rw [inR_i64]; omega)
      have o2 := Tryz.qof1 (j : Int) (by rw [inR_i64]; omega)
      have m1 := kA _ r1
      have m2 := kB' _ r2
      have m3 := kS _ _ ((zA _ r1).more (by decide)) ((zB _ r2).more (by decide))
      rw [← w1 j] at m3
      have hl1 := ways1_len V N j
      have hsu := ways1_succ V N j
      generalize way1 V N j = w at *
      generalize sc3 (-V.2.1, V.1, 0) (((N : Int) - j : Int) : Rat) = y1 at *
      generalize sc3 B ((j : Int) : Rat) = y2 at *
      refine callF_of o1 ?_
      (refine ev ?_; try with_reducible exact trivial)
      refine callF_of m1 ?_
      (refine ev ?_; try with_reducible exact trivial)
      refine callF_of o2 ?_
      (refine ev ?_; try with_reducible exact trivial)
      refine callF_of m2 ?_
      (refine ev ?_; try with_reducible exact trivial)
      refine callF_of m3 ?_
      (refine ev ?_; try with_reducible exact trivial)
      refine ⟨by rw [List.length_map, hl1]; omega, by rw [List.length_map, hl1]; omega, ⟨by omega, by omega⟩, ⟨j + 1, by omega, ?_, by simp⟩, by omega⟩
      rw [hsu, List.map_append, List.map_cons, List.map_nil, svs_snoc, List.length_append]
      rfl
    · obtain rfl : j = N + 1 := by omega
      refine loopF_of (fun E => ∃ j : Nat, j ≤ N ∧ E = [(1, .int .i64 N), (5, .box true [.str (rt (-V.2.1)), .str (rt V.1), .str [48]]), (6, .box true [.str (rt B.1), .str (rt B.2.1), .str (rt B.2.2)]), (7, .own true 26 ((ways2 V N j).map tx3).length (svs ((ways2 V N j).map tx3))), (9, .int .i64 ((j : Int) + 1))])
        (fun E => match lk E 9 with | .int _ i => N + 1 - i.toNat | _ => 0) ⟨0, by omega, by rw [ways2_zero]; rfl⟩ ?_
      rintro _ ⟨j, hj, rfl⟩
      (refine ev ?_; try with_reducible exact trivial)
      refine ⟨fun h1 => ⟨⟨by omega, by omega⟩, ?_⟩, fun h1 => ?_⟩
      · have r1 : rd ((((N : Int) - ((j : Int) + 1) : Int)) : Rat) ≤ 1 := rd_int (by decide) (by omega)
        have r2 : rd ((((j : Int) + 1 : Int)) : Rat) ≤ 1 := rd_int (by decide) (by omega)
        have o1 := Tryz.qof1 ((N : Int) - ((j : Int) + 1)) (by rw [inR_i64]; omega)
        have o2 := Tryz.qof1 ((j : Int) + 1) (by rw [inR_i64]; omega)
        have m1 := kB' _ r1
        have m2 := kA _ r2
        have m3 := kD _ _ ((zB _ r1).more (by decide)) ((zA _ r2).more (by decide))
        rw [sc_neg_int, show (N : Int) - ((j : Int) + 1) = (N : Int) - j - 1 by omega, show -((j : Int) + 1) = -(j : Int) - 1 by omega, ← w2 j] at m3
        rw [show (N : Int) - ((j : Int) + 1) = (N : Int) - j - 1 by omega] at m1 o1 ⊢
        have hl1 := ways2_len V N j
        have hsu := ways2_succ V N j
        generalize way2 V N j = w at *
        generalize sc3 (-V.2.1, V.1, 0) (((j : Int) + 1 : Int) : Rat) = y1 at *
        generalize sc3 B (((N : Int) - j - 1 : Int) : Rat) = y2 at *
        refine callF_of o1 ?_
        (refine ev ?_; try with_reducible exact trivial)
        refine callF_of m1 ?_
        (refine ev ?_; try with_reducible exact trivial)
        refine callF_of o2 ?_
        (refine ev ?_; try with_reducible exact trivial)
        refine callF_of m2 ?_
        (refine ev ?_; try with_reducible exact trivial)
        refine callF_of m3 ?_
        (refine ev ?_; try with_reducible exact trivial)
        refine ⟨by rw [List.length_map, hl1]; omega, by rw [List.length_map, hl1]; omega, ⟨by omega, by omega⟩, ⟨j + 1, by omega, ?_, by simp⟩, by omega⟩
        rw [hsu, List.map_append, List.map_cons, List.map_nil, svs_snoc, List.length_append]
        rfl
      · obtain rfl : j = N := by omega
        rfl
end Go.Proofs

/-
  STEREONET: the law on circles. Own work.
-/
namespace Go.Proofs
open Go Go.Pi Go.RowKit Go.Ar Go.Ne

theorem ldC_pxl {l : List (Int × Int)} {k t : Nat} {N : EP} {E : Env} : ldC true 2 (List.take 2 (List.drop (k * 2) (pxl l))) t N E = (∃ x, l[k]? = some x ∧ N (st1 E t (.agg (pxC x)))) := by
  unfold ldC
  cases h : l[k]? with
  | none =>
    have hk : l.length ≤ k := by simpa using h
    have e : List.take 2 (List.drop (k * 2) (pxl l)) = [] := by rw [List.drop_eq_nil_of_le (by rw [pxl_len]; omega)]; rfl
    rw [e]; simp [ofCells]
  | some x =>
    obtain ⟨r, e⟩ := rows_at pxC_len h
    have e2 : List.take 2 (List.drop (k * 2) (pxl l)) = pxC x := by rw [e]; rfl
    rw [e2]
    simp [ofCells, pxC]
theorem Tryz.lcirc1 (k : Int) (M : Nat) (h1 : 1 ≤ M) (hM : M ≤ 1000) (v : V3) (hv : Sz3 200 v) : Con Tryz.prog Tryz.L 36 [.agg (pxC (pixV (areaB k) M v)), .agg (svD (tx3 v)), .pt [.int .i64 k, .int .i64 M]] (.bool true) := by
  have cp := Tryz.lpixel k M h1 hM v hv
  refine rule36 Tryz.hL rfl rfl rfl ?_
  generalize pixV (areaB k) M v = p at *
  simp only [pxD, pxC, netD, svD, pc36, rs36, oU, oC, evX, evY, evZ, forall_const, implies_true, initE, stepF, D.clean, mvF, moF, tkF, shF, ariF, ciF, catF, scF, ebF, eqF, eqOk, eqPr, enF, notF, ngF, cvF, csF, csbF, lenF, lenSF, ixF, iaF, PX.slot, iaAF, faF, ldF, D.mem, stF, bxF, mkSF, boundF, fldF, ixAF, mmF2, D.plain, D.isPure, optAll, D.dull, callVF, splice, D.cells, D.one, sets, resT, D.flat, D.flat0, D.simple, Nat.reduceBNe, Nat.reduceLT, reduceIte, Nat.reduceEqDiff, Nat.reduceAdd, Nat.reduceMul, Nat.reduceSub, Nat.reduceLeDiff, Int.reduceToNat, Int.reduceLT, Int.reduceLE, Int.reduceEq, Int.reduceNeg, Int.reduceSub, Int.reduceAdd, Int.reduceMul, stG_own] at cp ⊢
  refine callF_of cp ?_
  (refine ev ?_; try with_reducible exact trivial)
set_option maxHeartbeats 4000000 in
theorem Tryz.leqfunc (k : Int) (M : Nat) (h1 : 1 ≤ M) (hM : M ≤ 1000) (l : List V3) (hl : l.length ≤ 1000) (hz : ∀ v ∈ l, Sz3 200 v) :
    Con Tryz.prog Tryz.L 34 [.sl l.length (pxl (l.map (pixV (areaB k) M))), .sl l.length (svs (l.map tx3)), .clo 36 [.pt [.int .i64 k, .int .i64 M]]] (.bool true) := by
  refine rule34 Tryz.hL rfl rfl rfl ?_
  (simp only [pc34, rs34, oU, oC]; refine ev ?_; try with_reducible exact trivial)
  refine loopF_of (fun E => ∃ j : Nat, j ≤ l.length ∧ E = [(1, .sl l.length (svs (l.map tx3))), (2, .clo 36 [.pt [.int .i64 k, .int .i64 M]]), (15, .sl l.length (pxl (l.map (pixV (areaB k) M)))), (16, .int .i64 l.length), (17, .int .i64 j)])
    (fun E => match lk E 17 with | .int _ i => l.length - i.toNat | _ => 0) ⟨0, by omega, rfl⟩ ?_
  rintro _ ⟨j, hj, rfl⟩
  simp only [evX, evY, evZ, forall_const, implies_true, initE, stepF, D.clean, mvF, moF, tkF, shF, ariF, ciF, catF, scF, ebF, eqF, eqOk, eqPr, enF, notF, ngF, cvF, csF, csbF, lenF, lenSF, ixF, iaF, PX.slot, iaAF, faF, ldF, D.mem, stF, bxF, mkSF, boundF, fldF, ixAF, mmF2, D.plain, D.isPure, optAll, D.dull, callVF, splice, D.cells, D.one, sets, resT, D.flat, D.flat0, D.simple, Nat.reduceBNe, Nat.reduceLT, reduceIte, Nat.reduceEqDiff, Nat.reduceAdd, Nat.reduceMul, Nat.reduceSub, Nat.reduceLeDiff, Int.reduceToNat, Int.reduceLT, Int.reduceLE, Int.reduceEq, Int.reduceNeg, Int.reduceSub, Int.reduceAdd, Int.reduceMul, stG_own, ldC_svs, ldC_pxl]
  intro h1'
  have hx : l[j]? = some (l[j]'(by omega)) := List.getElem?_eq_getElem (by omega)
  generalize l[j]'(by omega) = x at hx
  refine ⟨⟨by omega, by omega, by rw [pxl_len, List.length_map]; omega⟩, pixV (areaB k) M x, by rw [List.getElem?_map, hx]; rfl, ?_⟩
  have hc := Tryz.lcirc1 k M h1 hM x (hz x (List.mem_of_getElem? hx))
  generalize pixV (areaB k) M x = p at *
  simp only [pxC, svD, evX, evY, evZ, forall_const, implies_true, initE, stepF, D.clean, mvF, moF, tkF, shF, ariF, ciF, catF, scF, ebF, eqF, eqOk, eqPr, enF, notF, ngF, cvF, csF, csbF, lenF, lenSF, ixF, iaF, PX.slot, iaAF, faF, ldF, D.mem, stF, bxF, mkSF, boundF, fldF, ixAF, mmF2, D.plain, D.isPure, optAll, D.dull, callVF, splice, D.cells, D.one, sets, resT, D.flat, D.flat0, D.simple, Nat.reduceBNe, Nat.reduceLT, reduceIte, Nat.reduceEqDiff, Nat.reduceAdd, Nat.reduceMul, Nat.reduceSub, Nat.reduceLeDiff, Int.reduceToNat, Int.reduceLT, Int.reduceLE, Int.reduceEq, Int.reduceNeg, Int.reduceSub, Int.reduceAdd, Int.reduceMul, stG_own, ldC_svs, ldC_pxl] at hc ⊢
  refine ⟨⟨by omega, by omega, by rw [svs_len, List.length_map]; omega⟩, tx3 x, by rw [List.getElem?_map, hx]; rfl, ?_⟩
  refine callF_of hc ?_
  (refine ev ?_; try with_reducible exact trivial)
  exact ⟨by omega, ⟨j + 1, by omega, rfl⟩, by omega⟩
theorem ways2_sz {V : V3} (h : Sz3 12 V) {n : Nat} (hn : n ≤ 6) : ∀ v ∈ ways2 V n n, Sz3 200 v := fun v hv => by
  unfold ways2 ways1 at hv
  rcases List.mem_append.1 hv with hv | hv
  · obtain ⟨i, hi, rfl⟩ := List.mem_map.1 hv
    exact sz_way1 h hn (by have := List.mem_range.1 hi; omega)
  · obtain ⟨i, hi, rfl⟩ := List.mem_map.1 hv
    exact sz_way2 h hn (List.mem_range.1 hi)
set_option maxRecDepth 100000 in
set_option maxHeartbeats 8000000 in
theorem Tryz.stereonetCircles (hk : Con Tryz.prog Tryz.L 10 [] (.bool true)) (k R : Int) (v : S3) (n : Int) (h : szS 1048576 v) : Con Tryz.prog Tryz.L 8 [netD k R, .agg (svD v), .int .i64 n] (.bool true) := by
  have hbr := Tryz.lbrief [v] (by simp) (fun x hx => (List.mem_singleton.1 hx) ▸ h)
  refine rule8 Tryz.hL rfl rfl rfl ?_
  cases hb : (!([v].any longS)) with
  | false =>
    rw [hb] at hbr
    simp only [netD, svD, pc8, rs8, oU, oC, evX, evY, evZ, forall_const, implies_true, initE, stepF, D.clean, mvF, moF, tkF, shF, ariF, ciF, catF, scF, ebF, eqF, eqOk, eqPr, enF, notF, ngF, cvF, csF, csbF, lenF, lenSF, ixF, iaF, PX.slot, iaAF, faF, ldF, D.mem, stF, bxF, mkSF, boundF, fldF, ixAF, mmF2, D.plain, D.isPure, optAll, D.dull, callVF, splice, D.cells, D.one, sets, resT, D.flat, D.flat0, D.simple, Nat.reduceBNe, Nat.reduceLT, reduceIte, Nat.reduceEqDiff, Nat.reduceAdd, Nat.reduceMul, Nat.reduceSub, Nat.reduceLeDiff, Int.reduceToNat, Int.reduceLT, Int.reduceLE, Int.reduceEq, Int.reduceNeg, Int.reduceSub, Int.reduceAdd, Int.reduceMul, stG_own] at hbr ⊢
    refine callF_of hk ?_
    (refine ev ?_; try with_reducible exact trivial)
    refine callF_of hbr ?_
    (refine ev ?_; try with_reducible exact trivial)
    refine callF_of hk ?_
    (refine ev ?_; try with_reducible exact trivial)
  | true =>
    have h12 := any_long hb v (by simp)
    rw [hb] at hbr
    have hmo : ∀ {k : Nat}, 12 ≤ k → szS k v := fun hk => by obtain ⟨x, y, z⟩ := h12; exact ⟨by omega, by omega, by omega⟩
    by_cases hn : 6 < n ∧ n ≤ 100
    · simp only [netD, svD, pc8, rs8, oU, oC, evX, evY, evZ, forall_const, implies_true, initE, stepF, D.clean, mvF, moF, tkF, shF, ariF, ciF, catF, scF, ebF, eqF, eqOk, eqPr, enF, notF, ngF, cvF, csF, csbF, lenF, lenSF, ixF, iaF, PX.slot, iaAF, faF, ldF, D.mem, stF, bxF, mkSF, boundF, fldF, ixAF, mmF2, D.plain, D.isPure, optAll, D.dull, callVF, splice, D.cells, D.one, sets, resT, D.flat, D.flat0, D.simple, Nat.reduceBNe, Nat.reduceLT, reduceIte, Nat.reduceEqDiff, Nat.reduceAdd, Nat.reduceMul, Nat.reduceSub, Nat.reduceLeDiff, Int.reduceToNat, Int.reduceLT, Int.reduceLE, Int.reduceEq, Int.reduceNeg, Int.reduceSub, Int.reduceAdd, Int.reduceMul, stG_own] at hbr ⊢
      refine callF_of hk ?_
      (refine ev ?_; try with_reducible exact trivial)
      refine callF_of hbr ?_
      (refine ev ?_; try with_reducible exact trivial)
      refine ⟨fun _ => ⟨fun _ => ?_, fun h => absurd hn.2 h⟩, fun h => absurd hn.1 h⟩
      refine callF_of hk ?_
      (refine ev ?_; try with_reducible exact trivial)
    · have hC := Tryz.scircle k R v n h12 (by omega)
      have hF := Tryz.lfirstP k R [v] (by simp) (fun x hx => (List.mem_singleton.1 hx) ▸ hmo (by decide))
      rw [firE_errN] at hF
      have hW := fun (h0 : errN (some (k, R)) [v] = 0) (hn1 : ¬(n < 1 ∨ 100 < n)) => by
        obtain ⟨e1, ⟨e2, e3, e4⟩, e5⟩ := errN_0.1 h0
        have e6 := e1 v (by simp)
        have hV := val3_sz e6 h12
        have c1 := Con.flat (Tryz.lway (val3 v) n.toNat hV (by omega))
        rw [← val3_tx e6, show ((n.toNat : Nat) : Int) = n by omega] at c1
        have c2 := Tryz.leqfunc k R.toNat (by omega) (by omega) (ways2 (val3 v) n.toNat n.toNat) (by rw [ways2_len]; omega) (ways2_sz hV (by omega))
        rw [show ((R.toNat : Nat) : Int) = R by omega] at c2
        exact And.intro c1 c2
      unfold circR circE circL at hC
      have hwl := ways2_len (val3 v) n.toNat n.toNat
      generalize errN (some (k, R)) [v] = e at *
      generalize ways2 (val3 v) n.toNat n.toNat = ws at *
      rw [List.length_map] at hC
      simp only [List.length_map] at hW
      generalize pxl (ws.map (pixV (areaB k) R.toNat)) = px at *
      generalize svs (ws.map tx3) = sv at *
      simp only [netD, svD, pc8, rs8, oU, oC, evX, evY, evZ, forall_const, implies_true, initE, stepF, D.clean, mvF, moF, tkF, shF, ariF, ciF, catF, scF, ebF, eqF, eqOk, eqPr, enF, notF, ngF, cvF, csF, csbF, lenF, lenSF, ixF, iaF, PX.slot, iaAF, faF, ldF, D.mem, stF, bxF, mkSF, boundF, fldF, ixAF, mmF2, D.plain, D.isPure, optAll, D.dull, callVF, splice, D.cells, D.one, sets, resT, D.flat, D.flat0, D.simple, Nat.reduceBNe, Nat.reduceLT, reduceIte, Nat.reduceEqDiff, Nat.reduceAdd, Nat.reduceMul, Nat.reduceSub, Nat.reduceLeDiff, Int.reduceToNat, Int.reduceLT, Int.reduceLE, Int.reduceEq, Int.reduceNeg, Int.reduceSub, Int.reduceAdd, Int.reduceMul, stG_own] at hbr hC hF hW ⊢
      refine callF_of hk ?_
      (refine ev ?_; try with_reducible exact trivial)
      refine callF_of hbr ?_
      (refine ev ?_; try with_reducible exact trivial)
      refine ⟨fun h1 => ⟨fun h2 => absurd ⟨h1, h2⟩ hn, fun _ => ?_⟩, fun _ => ?_⟩
      all_goals
        refine callF_of hC ?_
        by_cases he : e = 0
        · subst he
          by_cases hn1 : n < 1 ∨ 100 < n
          · simp only [hn1, if_true, evX, evY, evZ, forall_const, implies_true, initE, stepF, D.clean, mvF, moF, tkF, shF, ariF, ciF, catF, scF, ebF, eqF, eqOk, eqPr, enF, notF, ngF, cvF, csF, csbF, lenF, lenSF, ixF, iaF, PX.slot, iaAF, faF, ldF, D.mem, stF, bxF, mkSF, boundF, fldF, ixAF, mmF2, D.plain, D.isPure, optAll, D.dull, callVF, splice, D.cells, D.one, sets, resT, D.flat, D.flat0, D.simple, Nat.reduceBNe, Nat.reduceLT, reduceIte, Nat.reduceEqDiff, Nat.reduceAdd, Nat.reduceMul, Nat.reduceSub, Nat.reduceLeDiff, Int.reduceToNat, Int.reduceLT, Int.reduceLE, Int.reduceEq, Int.reduceNeg, Int.reduceSub, Int.reduceAdd, Int.reduceMul, stG_own]
            refine callF_of hF ?_
            (refine ev ?_; try with_reducible exact trivial)
            exact ⟨fun h => ⟨fun _ => dB_iff.2 rfl, fun h2 => by omega⟩, fun _ => dB_iff.2 rfl⟩
          · obtain ⟨c1, c2⟩ := hW rfl hn1
            simp only [hn1, evX, evY, evZ, forall_const, implies_true, initE, stepF, D.clean, mvF, moF, tkF, shF, ariF, ciF, catF, scF, ebF, eqF, eqOk, eqPr, enF, notF, ngF, cvF, csF, csbF, lenF, lenSF, ixF, iaF, PX.slot, iaAF, faF, ldF, D.mem, stF, bxF, mkSF, boundF, fldF, ixAF, mmF2, D.plain, D.isPure, optAll, D.dull, callVF, splice, D.cells, D.one, sets, resT, D.flat, D.flat0, D.simple, Nat.reduceBNe, Nat.reduceLT, reduceIte, Nat.reduceEqDiff, Nat.reduceAdd, Nat.reduceMul, Nat.reduceSub, Nat.reduceLeDiff, Int.reduceToNat, Int.reduceLT, Int.reduceLE, Int.reduceEq, Int.reduceNeg, Int.reduceSub, Int.reduceAdd, Int.reduceMul, stG_own]
            refine callF_of hF ?_
            (refine ev ?_; try with_reducible exact trivial)
            refine ⟨fun _ => ⟨fun h => by omega, fun _ => ?_⟩, fun h => by omega⟩
            refine callF_of c1 ?_
            (refine ev ?_; try with_reducible exact trivial)
            refine callF_of c2 ?_
            (refine ev ?_; try with_reducible exact trivial)
        · simp only [he, if_true, if_false, evX, evY, evZ, forall_const, implies_true, initE, stepF, D.clean, mvF, moF, tkF, shF, ariF, ciF, catF, scF, ebF, eqF, eqOk, eqPr, enF, notF, ngF, cvF, csF, csbF, lenF, lenSF, ixF, iaF, PX.slot, iaAF, faF, ldF, D.mem, stF, bxF, mkSF, boundF, fldF, ixAF, mmF2, D.plain, D.isPure, optAll, D.dull, callVF, splice, D.cells, D.one, sets, resT, D.flat, D.flat0, D.simple, Nat.reduceBNe, Nat.reduceLT, reduceIte, Nat.reduceEqDiff, Nat.reduceAdd, Nat.reduceMul, Nat.reduceSub, Nat.reduceLeDiff, Int.reduceToNat, Int.reduceLT, Int.reduceLE, Int.reduceEq, Int.reduceNeg, Int.reduceSub, Int.reduceAdd, Int.reduceMul, stG_own]
          refine callF_of hF ?_
          (refine ev ?_; try with_reducible exact trivial)
          exact ⟨fun h => absurd h he, fun _ => ⟨fun _ => dB_iff.2 rfl, fun h => absurd he h⟩⟩
end Go.Proofs
