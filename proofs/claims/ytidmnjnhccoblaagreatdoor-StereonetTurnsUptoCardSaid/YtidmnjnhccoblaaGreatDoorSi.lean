/-
  STEREONET: the chapter's examples: known() is true. Own work.
-/
import Derived.Test.YtidmnjnhccoblaaGreatDoorPj
import Derived.Test.YtidmnjnhccoblaaGreatDoorSh
import Derived.Test.YtidmnjnhccoblaaGreatDoorEh
import Derived.Test.YtidmnjnhccoblaaGreatDoorSg
set_option linter.unusedVariables false
set_option linter.unusedSimpArgs false
namespace Go.Proofs
open Go Go.Pi Go.RowKit Go.Ar Go.Ne

theorem val_of (q : Rat) (h : rd q ≤ 200) : val (rt q) = q := by
  have := val_rt (s := rt q) ⟨q, rfl, h⟩
  exact (rt_inj this).symm
theorem px_one : pixV false 100 (1, 0, -1) = (41, 0) := by decide +kernel
theorem px_two : pixV true 100 (1, 0, 1) = (-54, 0) := by decide +kernel
theorem px_down : pixV false 1 (0, 0, -1) = (0, 0) := by decide +kernel
theorem rt_p0 : rt 0 = [48] := zero_txt
theorem rt_p1 : rt 1 = [49] := by kernel_rfl
theorem rd_01 : rd (0 : Rat) ≤ 200 ∧ rd (1 : Rat) ≤ 200 ∧ rd (-1 : Rat) ≤ 200 := ⟨by rw [show (0 : Rat) = ((0 : Int) : Rat) from rfl]; exact Nat.le_trans (rd_int (k := 1) (by decide) (by decide)) (by decide), by rw [show (1 : Rat) = ((1 : Int) : Rat) from rfl]; exact Nat.le_trans (rd_int (k := 1) (by decide) (by decide)) (by decide), Nat.le_trans rd_m1 (by decide)⟩
theorem vl_0 : val [48] = 0 := by rw [← rt_p0]; exact val_of 0 rd_01.1
theorem vl_1 : val [49] = 1 := by rw [← rt_p1]; exact val_of 1 rd_01.2.1
theorem vl_m1 : val [45, 49] = -1 := by rw [← rt_m1]; exact val_of (-1) rd_01.2.2
theorem ok_0 : okR [48] := ⟨0, rt_p0.symm, rd_01.1⟩
theorem ok_1 : okR [49] := ⟨1, rt_p1.symm, rd_01.2.1⟩
theorem ok_m1 : okR [45, 49] := ⟨-1, rt_m1.symm, rd_01.2.2⟩
theorem Tryz.kpix1 : pixR 1 100 ([49], [48], [45, 49]) = .tup [.agg [.int .i64 41, .int .i64 0], .int .i64 0] := by
  unfold pixR
  rw [if_pos (errN_0.2 ⟨fun v hv => by rw [List.mem_singleton.1 hv]; exact ⟨ok_1, ok_0, ok_m1⟩, by decide, by decide⟩)]
  have e : val3 ([49], [48], [45, 49]) = (1, 0, -1) := by simp only [val3, vl_0, vl_1, vl_m1]
  have ea : areaB 1 = false := rfl
  rw [e, ea, show (100 : Int).toNat = 100 from rfl, px_one]
  rfl
theorem Tryz.kpix2 : pixR 2 100 ([49], [48], [49]) = .tup [.agg [.int .i64 (-54), .int .i64 0], .int .i64 0] := by
  unfold pixR
  rw [if_pos (errN_0.2 ⟨fun v hv => by rw [List.mem_singleton.1 hv]; exact ⟨ok_1, ok_0, ok_1⟩, by decide, by decide⟩)]
  have e : val3 ([49], [48], [49]) = (1, 0, 1) := by simp only [val3, vl_0, vl_1]
  have ea : areaB 2 = true := rfl
  rw [e, ea, show (100 : Int).toNat = 100 from rfl, px_two]
  rfl
def dn : S3 := ([48], [48], [45, 49])
theorem Tryz.kpic : picR 1 1 [dn, dn] = .tup [.sl 3 [.str [32, 46, 32], .str [46, 50, 46], .str [32, 46, 32]], .int .i64 0] := by
  have hz : zerE [dn, dn] = 0 := by decide
  have hn : numE [dn, dn] = 0 := num_0.2 (fun v hv => by
    have : v = dn := by simpa using hv
    rw [this]; exact ⟨ok_0, ok_0, ok_m1⟩)
  have he : picE 1 1 [dn, dn] = 0 := by unfold picE; rw [hn, hz]; decide
  unfold picR
  rw [if_pos he]
  have hp : ∀ i, i < 2 → pxs 1 1 [dn, dn] i = (0, 0) := fun i hi => by
    have e : val3 dn = (0, 0, -1) := by simp only [val3, dn, vl_0, vl_m1]
    have : [dn, dn].getD i ([], [], []) = dn := by
      match i, hi with
      | 0, _ => rfl
      | 1, _ => rfl
    unfold pxs
    rw [this, e]
    exact px_down
  have hc : cntP (pxs 1 (1 : Int).toNat [dn, dn]) [dn, dn].length = fun c r => if c = 0 ∧ r = 0 then 2 else 0 := by
    funext c r
    show cntP (pxs 1 1 [dn, dn]) 2 c r = _
    simp only [cntP, hp 0 (by decide), hp 1 (by decide)]
    split <;> simp_all
  rw [hc]
  rfl
set_option maxHeartbeats 4000000 in
theorem Tryz.eqStr3 (x y z : List UInt8) : Con Tryz.prog Tryz.L 37 [.sl 3 [.str x, .str y, .str z], .sl 3 [.str x, .str y, .str z]] (.bool true) := by
  refine rule37 Tryz.hL rfl rfl rfl ?_
  (simp only [pc37, rs37, oU, oC]; refine ev ?_; try with_reducible exact trivial)
  refine loopF_of (fun E => ∃ k : Nat, k ≤ 3 ∧ E = [(0, .sl 3 [.str x, .str y, .str z]), (1, .sl 3 [.str x, .str y, .str z]), (12, .int .i64 3), (13, .int .i64 k)])
    (fun E => match lk E 13 with | .int _ i => 3 - i.toNat | _ => 0) ⟨0, by omega, rfl⟩ ?_
  rintro _ ⟨k, hk, rfl⟩
  obtain rfl | rfl | rfl | rfl : k = 0 ∨ k = 1 ∨ k = 2 ∨ k = 3 := by omega
  · (refine ev ?_; try with_reducible exact trivial)
    exact fun _ => ⟨⟨by decide, by decide⟩, ⟨by decide, by decide⟩, ⟨by decide, by decide⟩, ⟨1, by omega, rfl⟩, by decide⟩
  · (refine ev ?_; try with_reducible exact trivial)
    exact fun _ => ⟨⟨by decide, by decide⟩, ⟨by decide, by decide⟩, ⟨by decide, by decide⟩, ⟨2, by omega, rfl⟩, by decide⟩
  · (refine ev ?_; try with_reducible exact trivial)
    exact fun _ => ⟨⟨by decide, by decide⟩, ⟨by decide, by decide⟩, ⟨by decide, by decide⟩, ⟨3, by omega, rfl⟩, by decide⟩
  · (refine ev ?_; try with_reducible exact trivial)
    exact fun h => absurd h (by omega)
set_option maxRecDepth 100000 in
set_option maxHeartbeats 4000000 in
theorem Tryz.known18 : Con Tryz.prog Tryz.L 10 [] (.bool true) := by
  have c1 := Tryz.sPixel 1 100 ([49], [48], [45, 49]) ⟨by decide, by decide, by decide⟩
  have c2 := Tryz.sPixel 2 100 ([49], [48], [49]) ⟨by decide, by decide, by decide⟩
  have c3 := Tryz.spicture 1 1 [dn, dn] (by decide) (fun v hv => by
    have : v = dn := by simpa using hv
    rw [this]; exact ⟨by decide, by decide, by decide⟩)
  rw [Tryz.kpix1] at c1
  rw [Tryz.kpix2] at c2
  rw [Tryz.kpic] at c3
  have c4 := Tryz.eqStr3 [32, 46, 32] [46, 50, 46] [32, 46, 32]
  have e3 : svs [dn, dn] = [.str [48], .str [48], .str [45, 49], .str [48], .str [48], .str [45, 49]] := rfl
  rw [lS, e3] at c3
  refine rule10 Tryz.hL rfl rfl rfl ?_
  simp only [netD, svD, pc10, rs10, oU, oC, evX, evY, evZ, forall_const, implies_true, initE, stepF, D.clean, mvF, moF, tkF, shF, ariF, ciF, catF, scF, ebF, eqF, eqOk, eqPr, enF, notF, ngF, cvF, csF, csbF, lenF, lenSF, ixF, iaF, PX.slot, iaAF, faF, ldF, D.mem, stF, bxF, mkSF, boundF, fldF, ixAF, mmF2, D.plain, D.isPure, optAll, D.dull, callVF, splice, D.cells, D.one, sets, resT, D.flat, D.flat0, D.simple, Nat.reduceBNe, Nat.reduceLT, reduceIte, Nat.reduceEqDiff, Nat.reduceAdd, Nat.reduceMul, Nat.reduceSub, Nat.reduceLeDiff, Int.reduceToNat, Int.reduceLT, Int.reduceLE, Int.reduceEq, Int.reduceNeg, Int.reduceSub, Int.reduceAdd, Int.reduceMul, stG_own] at c1 c2 c3 ⊢
  refine callF_of c1 ?_
  (refine ev ?_; try with_reducible exact trivial)
  refine callF_of c2 ?_
  (refine ev ?_; try with_reducible exact trivial)
  refine callF_of c3 ?_
  (refine ev ?_; try with_reducible exact trivial)
  refine callF_of c4 ?_
  (refine ev ?_; try with_reducible exact trivial)
end Go.Proofs

/-
  STEREONET: the laws on pixels and lower directions, given the chapter's examples. Own work.
-/
namespace Go.Proofs
open Go Go.Pi Go.RowKit Go.Ar Go.Ne

end Go.Proofs

/-
  STEREONET: Within. Own work.
-/
namespace Go.Proofs
open Go Go.Pi Go.RowKit Go.Ar Go.Ne

/-- the places below k with a property -/
def idx (q : Nat → Bool) : Nat → List Int
  | 0 => []
  | k + 1 => if q k then idx q k ++ [(k : Int)] else idx q k
theorem idx_len (q : Nat → Bool) : ∀ k, (idx q k).length ≤ k
  | 0 => Nat.le_refl _
  | k + 1 => by
    have := idx_len q k
    simp only [idx]; split <;> simp <;> omega
/-- is the k-th pole in the cone? -/
def inW (a : V3) (c : Rat) (l : List V3) (k : Nat) : Bool := match l[k]? with
  | some p => decide (c * c * dot3 a a * dot3 p p ≤ dot3 a p * dot3 a p)
  | none => false
noncomputable def conE (a : S3) (c : List UInt8) (l : List S3) : Int :=
  if numE [a] ≠ 0 then 2 else if chk (okR c) ≠ 0 then 2 else if numE l ≠ 0 then 2 else if 400 < l.length then 4 else if zerE (a :: l) ≠ 0 then 17 else if val c < 0 ∨ 1 < val c then 3 else 0
noncomputable def withR (a : S3) (c : List UInt8) (l : List S3) : D :=
  if conE a c l = 0 then .tup [.sl (idx (inW (val3 a) (val c) (l.map val3)) l.length).length (ints .i64 (idx (inW (val3 a) (val c) (l.map val3)) l.length)), .int .i64 0] else .tup [.sl 0 [], .int .i64 (conE a c l)]
theorem withR_al (a : S3) (c : List UInt8) (l : List S3) : aliasOf (withR a c l) = none := by unfold withR; split <;> rfl
theorem chk_2 {p : Prop} : chk p ≠ 0 → chk p = 2 := fun h => chk_f (fun hp => h (chk_t hp))
theorem zer_17 {l : List S3} (h : zerE l ≠ 0) : zerE l = 17 := by
  unfold zerE at *
  cases h2 : l.any zS
  · rw [h2] at h; exact absurd rfl h
  · rfl
theorem rt_p1' : rt 1 = [49] := by kernel_rfl
theorem rd_01' : rd (1 : Rat) ≤ 1 := by rw [show (1 : Rat) = ((1 : Int) : Rat) from rfl]; exact rd_int (by decide) (by decide)
set_option maxRecDepth 100000 in
set_option maxHeartbeats 8000000 in
theorem Tryz.swithin (a : S3) (c : List UInt8) (l : List S3) (ha : szS 200 a) (hc : c.length ≤ 200) (hl : l.length ≤ 900) (hz : ∀ v ∈ l, szS 200 v) :
    Con Tryz.prog Tryz.L 20 [.agg (svD a), .str c, lS l] (withR a c l) := by
  have hs1 : ∀ v : S3, szS 200 v → szS 1000000 v := fun v h => by obtain ⟨x, y, z⟩ := h; exact ⟨by omega, by omega, by omega⟩
  have n1 := Tryz.snumbers [a] (by simp) (fun x hx => by obtain rfl := List.mem_singleton.1 hx; exact hs1 _ ha)
  have n2 := Tryz.rcheck c (by omega)
  have n3 := Tryz.snumbers l (by omega) (fun x hx => hs1 _ (hz x hx))
  have n4 := Tryz.szeros (a :: l) (by simp; omega)
  refine rule20 Tryz.hL (withR_al _ _ _) rfl rfl ?_
  simp only [svD, pc20, rs20, oU, oC, evX, evY, evZ, forall_const, implies_true, initE, stepF, D.clean, mvF, moF, tkF, shF, ariF, ciF, catF, scF, ebF, eqF, eqOk, eqPr, enF, notF, ngF, cvF, csF, csbF, lenF, lenSF, ixF, iaF, PX.slot, iaAF, faF, ldF, D.mem, stF, bxF, mkSF, boundF, fldF, ixAF, mmF2, D.plain, D.isPure, optAll, D.dull, callVF, splice, D.cells, D.one, sets, resT, D.flat, D.flat0, D.simple, Nat.reduceBNe, Nat.reduceLT, reduceIte, Nat.reduceEqDiff, Nat.reduceAdd, Nat.reduceMul, Nat.reduceSub, Nat.reduceLeDiff, Int.reduceToNat, Int.reduceLT, Int.reduceLE, Int.reduceEq, Int.reduceNeg, Int.reduceSub, Int.reduceAdd, Int.reduceMul, stG_own]
  refine callF_of n1 ?_
  (refine ev ?_; try with_reducible exact trivial)
  unfold withR
  refine ⟨fun e1 => ?_, fun e1 => ?_⟩
  · have e : conE a c l = 2 := by unfold conE; rw [if_pos e1]
    rw [e, if_neg (by decide), show numE [a] = 2 from chk_2 e1]; rfl
  refine callF_of n2 ?_
  (refine ev ?_; try with_reducible exact trivial)
  refine ⟨fun e2 => ?_, fun e2 => ?_⟩
  · have e : conE a c l = 2 := by unfold conE; rw [if_neg e1, if_pos e2]
    rw [e, if_neg (by decide), show chk (okR c) = 2 from chk_2 e2]; rfl
  refine callF_of n3 ?_
  (refine ev ?_; try with_reducible exact trivial)
  refine ⟨fun e3 => ?_, fun e3 => ?_⟩
  · have e : conE a c l = 2 := by unfold conE; rw [if_neg e1, if_neg e2, if_pos e3]
    rw [e, if_neg (by decide), show numE l = 2 from chk_2 e3]; rfl
  refine ⟨fun e4 => ?_, fun e4 => ?_⟩
  · have e : conE a c l = 4 := by unfold conE; rw [if_neg e1, if_neg e2, if_neg e3, if_pos (by omega)]
    rw [e, if_neg (by decide)]; rfl
  have k1 := num_0.1 (Classical.not_not.1 e1) a (by simp)
  have k2 := chk_0.1 (Classical.not_not.1 e2)
  have k3 := num_0.1 (Classical.not_not.1 e3)
  obtain ⟨q, hq⟩ : ∃ q, q = val c := ⟨_, rfl⟩
  obtain ⟨A, hA⟩ : ∃ A, A = val3 a := ⟨_, rfl⟩
  have ec : c = rt q := by rw [hq]; exact val_rt k2
  have ea : a = tx3 A := by rw [hA]; exact val3_tx k1
  have za : Sz3 200 A := by rw [hA]; exact val3_sz k1 ha
  have rq : rd q ≤ 200 := by have := rd_rtlen q; rw [← ec] at this; omega
  have e4' : lS (a :: l) = .sl (1 + l.length) (.str a.1 :: .str a.2.1 :: .str a.2.2 :: svs l) := by
    show D.sl (l.length + 1) _ = _
    rw [Nat.add_comm]; rfl
  rw [e4'] at n4
  have hlen := svs_len l
  refine ⟨by omega, by omega, by omega, ?_⟩
  refine callF_of n4 ?_
  (refine ev ?_; try with_reducible exact trivial)
  refine ⟨fun e5 => ?_, fun e5 => ?_⟩
  · have e : conE a c l = 17 := by unfold conE; rw [if_neg e1, if_neg e2, if_neg e3, if_neg (by omega), if_pos e5]
    rw [e, if_neg (by decide), zer_17 e5]; rfl
  have hcE : conE a c l = if q < 0 ∨ 1 < q then 3 else 0 := by unfold conE; rw [if_neg e1, if_neg e2, if_neg e3, if_neg (by omega), if_neg e5, ← hq]
  rw [hcE, ← hA, ← hq]
  clear hcE n1 n2 n3 n4 e1 e2 e3 e5 k1 k2 ha hc hA hq e4'
  subst ec
  subst ea
  have hr1 : ∀ v : V3, tx3 v = (rt v.1, rt v.2.1, rt v.2.2) := fun _ => rfl
  have cS := Tryz.rsign q (by omega)
  have cC := Tryz.rcompare q 1 (by omega) (by have := rd_01'; omega)
  rw [rt_p1'] at cC
  have p1 := sgn_nonneg q
  have cpl := cmpQ_le q 1
  have m1 := Tryz.rmul q q (by omega) (by omega)
  have d1 := Tryz.sdot A A (za.more (by decide)) (za.more (by decide))
  have z1 := rd_mul q q
  have z2 := sz_dot za za
  have m2 := Tryz.rmul (q * q) (dot3 A A) (by omega) (by omega)
  have z3 := rd_mul (q * q) (dot3 A A)
  have hin : ∀ k, inW A q (l.map val3) k = match l[k]? with | some x => decide (q * q * dot3 A A * dot3 (val3 x) (val3 x) ≤ dot3 A (val3 x) * dot3 A (val3 x)) | none => false := fun k => by
    unfold inW; rw [List.getElem?_map]; cases l[k]? <;> rfl
  have hid := idx_len (inW A q (l.map val3))
  have hsu : ∀ k, idx (inW A q (l.map val3)) (k + 1) = if inW A q (l.map val3) k then idx (inW A q (l.map val3)) k ++ [(k : Int)] else idx (inW A q (l.map val3)) k := fun k => rfl
  have hze : idx (inW A q (l.map val3)) 0 = [] := rfl
  generalize inW A q (l.map val3) = W at *
  simp only [hr1, svD, evX, evY, evZ, forall_const, implies_true, initE, stepF, D.clean, mvF, moF, tkF, shF, ariF, ciF, catF, scF, ebF, eqF, eqOk, eqPr, enF, notF, ngF, cvF, csF, csbF, lenF, lenSF, ixF, iaF, PX.slot, iaAF, faF, ldF, D.mem, stF, bxF, mkSF, boundF, fldF, ixAF, mmF2, D.plain, D.isPure, optAll, D.dull, callVF, splice, D.cells, D.one, sets, resT, D.flat, D.flat0, D.simple, Nat.reduceBNe, Nat.reduceLT, reduceIte, Nat.reduceEqDiff, Nat.reduceAdd, Nat.reduceMul, Nat.reduceSub, Nat.reduceLeDiff, Int.reduceToNat, Int.reduceLT, Int.reduceLE, Int.reduceEq, Int.reduceNeg, Int.reduceSub, Int.reduceAdd, Int.reduceMul, stG_own] at d1 ⊢
  refine callF_of cS ?_
  (refine ev ?_; try with_reducible exact trivial)
  have hneg : q.num.sign < 0 → q < 0 := fun h => Rat.not_le.1 (fun h2 => by have := p1.2 h2; omega)
  refine ⟨fun s1 => ?_, fun s1 => ?_⟩
  · have hq0 : 0 ≤ q := p1.1 (by omega)
    refine callF_of cC ?_
    (refine ev ?_; try with_reducible exact trivial)
    refine ⟨fun s2 => ?_, fun s2 => ?_⟩
    · have : ¬q ≤ 1 := fun h => by have := cpl.2 h; omega
      rw [if_pos (show q < 0 ∨ 1 < q from .inr (Rat.not_le.1 this)), if_neg (by decide)]
      rfl
    · have hq1 : q ≤ 1 := cpl.1 (by omega)
      rw [if_neg (show ¬(q < 0 ∨ 1 < q) from fun h => h.elim (Rat.not_lt.2 hq0) (Rat.not_lt.2 hq1)), if_pos rfl]
      refine callF_of m1 ?_
      (refine ev ?_; try with_reducible exact trivial)
      refine callF_of d1 ?_
      (refine ev ?_; try with_reducible exact trivial)
      refine callF_of m2 ?_
      (refine ev ?_; try with_reducible exact trivial)
      refine loopF_of (fun E => ∃ j : Nat, j ≤ l.length ∧ E = [(3, .box true [.str (rt A.1), .str (rt A.2.1), .str (rt A.2.2)]), (12, .str (rt (q * q * dot3 A A))), (13, .own true 3 (idx W j).length (ints .i64 (idx W j))), (59, lS l), (60, .int .i64 l.length), (61, .int .i64 j)])
        (fun E => match lk E 61 with | .int _ i => l.length - i.toNat | _ => 0) ⟨0, by omega, by rw [hze]; rfl⟩ ?_
      rintro _ ⟨j, hj, rfl⟩
      simp only [evX, evY, evZ, forall_const, implies_true, initE, stepF, D.clean, mvF, moF, tkF, shF, ariF, ciF, catF, scF, ebF, eqF, eqOk, eqPr, enF, notF, ngF, cvF, csF, csbF, lenF, lenSF, ixF, iaF, PX.slot, iaAF, faF, ldF, D.mem, stF, bxF, mkSF, boundF, fldF, ixAF, mmF2, D.plain, D.isPure, optAll, D.dull, callVF, splice, D.cells, D.one, sets, resT, D.flat, D.flat0, D.simple, Nat.reduceBNe, Nat.reduceLT, reduceIte, Nat.reduceEqDiff, Nat.reduceAdd, Nat.reduceMul, Nat.reduceSub, Nat.reduceLeDiff, Int.reduceToNat, Int.reduceLT, Int.reduceLE, Int.reduceEq, Int.reduceNeg, Int.reduceSub, Int.reduceAdd, Int.reduceMul, stG_own, ldC_svs]
      refine ⟨fun h1 => ?_, fun h1 => ?_⟩
      · have hx : l[j]? = some (l[j]'(by omega)) := List.getElem?_eq_getElem (by omega)
        generalize l[j]'(by omega) = x at hx
        refine ⟨⟨by omega, by omega, by omega⟩, x, hx, ?_⟩
        have hm := List.mem_of_getElem? hx
        have hok := k3 x hm
        have hxe := val3_tx hok
        have hxz := val3_sz hok (hz x hm)
        have hW := hin j
        rw [hx] at hW
        simp only at hW
        have hs := hsu j
        have hlj := hid j
        generalize val3 x = P at *
        subst hxe
        have d2 := Tryz.sdot A P (za.more (by decide)) (hxz.more (by decide))
        have d3 := Tryz.sdot P P (hxz.more (by decide)) (hxz.more (by decide))
        have z4 := sz_dot za hxz
        have z5 := sz_dot hxz hxz
        have m3 := Tryz.rmul (dot3 A P) (dot3 A P) (by omega) (by omega)
        have z6 := rd_mul (dot3 A P) (dot3 A P)
        have m4 := Tryz.rmul (q * q * dot3 A A) (dot3 P P) (by omega) (by omega)
        have z7 := rd_mul (q * q * dot3 A A) (dot3 P P)
        have cC2 := Tryz.rcompare (dot3 A P * dot3 A P) (q * q * dot3 A A * dot3 P P) (by omega) (by omega)
        have cge := cmpQ_ge (dot3 A P * dot3 A P) (q * q * dot3 A A * dot3 P P)
        simp only [hr1, svD, evX, evY, evZ, forall_const, implies_true, initE, stepF, D.clean, mvF, moF, tkF, shF, ariF, ciF, catF, scF, ebF, eqF, eqOk, eqPr, enF, notF, ngF, cvF, csF, csbF, lenF, lenSF, ixF, iaF, PX.slot, iaAF, faF, ldF, D.mem, stF, bxF, mkSF, boundF, fldF, ixAF, mmF2, D.plain, D.isPure, optAll, D.dull, callVF, splice, D.cells, D.one, sets, resT, D.flat, D.flat0, D.simple, Nat.reduceBNe, Nat.reduceLT, reduceIte, Nat.reduceEqDiff, Nat.reduceAdd, Nat.reduceMul, Nat.reduceSub, Nat.reduceLeDiff, Int.reduceToNat, Int.reduceLT, Int.reduceLE, Int.reduceEq, Int.reduceNeg, Int.reduceSub, Int.reduceAdd, Int.reduceMul, stG_own] at d2 d3 ⊢
        refine callF_of d2 ?_
        (refine ev ?_; try with_reducible exact trivial)
        refine callF_of m3 ?_
        (refine ev ?_; try with_reducible exact trivial)
        refine callF_of d3 ?_
        (refine ev ?_; try with_reducible exact trivial)
        refine callF_of m4 ?_
        (refine ev ?_; try with_reducible exact trivial)
        refine callF_of cC2 ?_
        (refine ev ?_; try with_reducible exact trivial)
        refine ⟨fun h2 => ?_, fun h2 => ?_⟩
        · have hw : W j = true := by rw [hW]; exact decide_eq_true (cge.1 h2)
          rw [if_pos hw] at hs
          exact ⟨by omega, by omega, ⟨by omega, by omega⟩, ⟨j + 1, by omega, by rw [hs, List.length_append]; rfl, by simp⟩, by omega⟩
        · have hw : ¬W j = true := by rw [hW, decide_eq_true_eq]; exact fun h => h2 (cge.2 h)
          rw [if_neg hw] at hs
          exact ⟨⟨by omega, by omega⟩, ⟨j + 1, by omega, by rw [hs], by simp⟩, by omega⟩
      · obtain rfl : j = l.length := by omega
        rfl
  · rw [if_pos (show q < 0 ∨ 1 < q from .inl (hneg s1)), if_neg (by decide)]
    rfl
end Go.Proofs

/-
  STEREONET: the law on many poles. Own work.
-/
namespace Go.Ne
end Go.Ne
namespace Go.Proofs
open Go Go.Pi Go.RowKit Go.Ar Go.Ne

theorem idx_all {q : Nat → Bool} : ∀ {K : Nat}, (∀ k, k < K → q k = true) → (idx q K).length = K
  | 0, _ => rfl
  | K + 1, h => by
    rw [idx, if_pos (h K (Nat.lt_succ_self K)), List.length_append, idx_all (fun k hk => h k (by omega))]; rfl
end Go.Proofs

/-
  STEREONET: what the law on turned directions calls. Own work.
-/
namespace Go.Ne
theorem low_neg {v : V3} (h : v.2.2 ≤ 0) : low3 v = v := by unfold low3; rw [if_neg (Rat.not_lt.2 h)]
theorem pixV_turn {area : Bool} {R : Nat} {v : V3} (h : v.2.2 ≤ 0) : (pixV area R (-v.2.1, v.1, v.2.2)).2 = (pixV area R v).1 := by
  unfold pixV
  rw [low_neg (v := (-v.2.1, v.1, v.2.2)) h, low_neg h]
  have e : dot3 (-v.2.1, v.1, v.2.2) (-v.2.1, v.1, v.2.2) = dot3 v v := by unfold dot3; grind
  simp only [e]
end Go.Ne
namespace Go.Proofs
open Go Go.Pi Go.RowKit Go.Ar Go.Ne

theorem okR_of (q : Rat) (h : rd q ≤ 200) : okR (rt q) := ⟨q, rfl, h⟩
theorem val3_of (v : V3) (h : Sz3 200 v) : val3 (tx3 v) = v := Prod.ext (val_of _ h.1) (Prod.ext (val_of _ h.2.1) (val_of _ h.2.2))
theorem szS_tx {v : V3} {k : Nat} (h : Sz3 k v) (hk : 3 * k ≤ 190) : szS 200 (tx3 v) := by
  have a := rt_len v.1; have b := rt_len v.2.1; have c := rt_len v.2.2
  obtain ⟨h1, h2, h3⟩ := h
  exact ⟨by show (rt v.1).length ≤ _; omega, by show (rt v.2.1).length ≤ _; omega, by show (rt v.2.2).length ≤ _; omega⟩
theorem pixR_ok {k R : Int} {v : V3} (hk : k = 1 ∨ k = 2) (h1 : 1 ≤ R) (h2 : R ≤ 1000) (hv : Sz3 200 v) (hz : zer3 v = false) : pixR k R (tx3 v) = .tup [pxD (pixV (areaB k) R.toNat v), .int .i64 0] := by
  unfold pixR
  rw [if_pos (errN_0.2 ⟨fun x hx => by rw [List.mem_singleton.1 hx]; exact tx3_ok hv, ⟨hk, h1, h2⟩, by simp [zS_tx, hz]⟩), val3_of v hv]
theorem zer_sc {v : V3} {q : Rat} (hz : zer3 v = false) (hq : q ≠ 0) : zer3 (sc3 v q) = false := by
  have hv : v ≠ (0, 0, 0) := of_decide_eq_false hz
  refine decide_eq_false fun h => hv ?_
  unfold sc3 at h
  simp only [Prod.mk.injEq] at h
  have key : ∀ x : Rat, x * q = 0 → x = 0 := fun x hx => (Rat.mul_eq_zero.1 hx).resolve_right hq
  exact Prod.ext (key _ h.1) (Prod.ext (key _ h.2.1) (key _ h.2.2))
theorem conE_ok {a : V3} {q : Rat} {l : List V3} (ha : Sz3 200 a) (hq : rd q ≤ 200) (h0 : 0 ≤ q) (h1 : q ≤ 1) (hl : ∀ v ∈ l, Sz3 200 v ∧ zer3 v = false) (hza : zer3 a = false) (hn : l.length ≤ 400) : conE (tx3 a) (rt q) (l.map tx3) = 0 := by
  have n1 : numE [tx3 a] = 0 := num_0.2 (fun v hv => by rw [List.mem_singleton.1 hv]; exact tx3_ok ha)
  have n2 : chk (okR (rt q)) = 0 := chk_0.2 (okR_of q hq)
  have n3 : numE (l.map tx3) = 0 := num_0.2 (fun v hv => by obtain ⟨x, hx, rfl⟩ := List.mem_map.1 hv; exact tx3_ok (hl x hx).1)
  have n4 : zerE (tx3 a :: l.map tx3) = 0 := zer_0.2 (by
    rw [List.any_eq_false]
    intro v hv
    rcases List.mem_cons.1 hv with rfl | hv
    · rw [zS_tx, hza]; simp
    · obtain ⟨x, hx, rfl⟩ := List.mem_map.1 hv
      rw [zS_tx, (hl x hx).2]; simp)
  unfold conE
  rw [if_neg (by simp [n1]), if_neg (by simp [n2]), if_neg (by simp [n3]), if_neg (by simp; omega), if_neg (by simp [n4]), val_of q hq, if_neg (fun h => h.elim (Rat.not_lt.2 h0) (Rat.not_lt.2 h1))]
theorem with_all {a : V3} {q : Rat} {l : List V3} (ha : Sz3 200 a) (hq : rd q ≤ 200) (h0 : 0 ≤ q) (h1 : q ≤ 1) (hl : ∀ v ∈ l, (Sz3 200 v ∧ zer3 v = false) ∧ q * q * dot3 a a * dot3 v v ≤ dot3 a v * dot3 a v) (hza : zer3 a = false) (hn : l.length ≤ 400) :
    ∃ il : List Int, il.length = l.length ∧ withR (tx3 a) (rt q) (l.map tx3) = .tup [.sl il.length (ints .i64 il), .int .i64 0] := by
  have e := conE_ok ha hq h0 h1 (fun v hv => (hl v hv).1) hza hn
  refine ⟨idx (inW (val3 (tx3 a)) (val (rt q)) ((l.map tx3).map val3)) (l.map tx3).length, ?_, ?_⟩
  · rw [List.length_map]
    refine idx_all fun k hk => ?_
    have hx : l[k]? = some l[k] := List.getElem?_eq_getElem hk
    have hm := hl l[k] (List.getElem_mem hk)
    generalize l[k] = x at hx hm
    unfold inW
    rw [List.getElem?_map, List.getElem?_map, hx, val_of q hq, val3_of a ha]
    simp only [Option.map_some, val3_of x hm.1.1]
    exact decide_eq_true hm.2
  · unfold withR
    rw [if_pos e]
set_option maxHeartbeats 4000000 in
theorem Tryz.turnFacts (k : Int) (R : Nat) (hk : k = 1 ∨ k = 2) (h1 : 1 ≤ R) (hR : R ≤ 200) (V : V3) (S : S3) (hS : tx3 V = S) (hV : Sz3 3 V) (hz : V.2.2 ≤ 0) (hn : zer3 V = false) (q : Rat) (hq : 0 < q) (hqr : rd q ≤ 5) :
    ∃ pa pc pd : Int × Int, Con Tryz.prog Tryz.L 12 [netD k R, .agg (svD S)] (.tup [pxD pa, .int .i64 0]) ∧
      (∃ S2, Con Tryz.prog Tryz.L 28 [.agg (svD S), .str (rt q)] (.agg (svD S2)) ∧ Con Tryz.prog Tryz.L 12 [netD k R, .agg (svD S2)] (.tup [pxD pa, .int .i64 0])) ∧
      (∃ S3, Con Tryz.prog Tryz.L 28 [.agg (svD S), .str [45, 49]] (.agg (svD S3)) ∧ Con Tryz.prog Tryz.L 12 [netD k R, .agg (svD S3)] (.tup [pxD pc, .int .i64 0])) ∧
      (∃ t, Con Tryz.prog Tryz.L 29 [.str S.2.1] (.str t) ∧ Con Tryz.prog Tryz.L 12 [netD k R, .agg [.str t, .str S.1, .str S.2.2]] (.tup [pxD pd, .int .i64 0])) ∧
      (∃ S5, Con Tryz.prog Tryz.L 28 [.agg (svD S), .str [45, 51]] (.agg (svD S5)) ∧ ∃ il : List Int, il.length = 2 ∧ Con Tryz.prog Tryz.L 20 [.agg (svD S), .str [49], .sl 2 (svD S ++ svD S5)] (.tup [.sl il.length (ints .i64 il), .int .i64 0])) ∧
      (∃ il : List Int, il.length = 1 ∧ Con Tryz.prog Tryz.L 20 [.agg [.str [49], .str [50], .str [51]], .str [48], .sl 1 (svD S)] (.tup [.sl il.length (ints .i64 il), .int .i64 0])) ∧
      (pa = pc ∨ S.2.2 = [48]) ∧ pd.2 = pa.1 ∧ (-(R : Int) ≤ pa.1 ∧ pa.1 ≤ R) := by
  subst hS
  have r1 : rt (-1) = [45, 49] := rt_m1
  have r3 : rt (-3) = [45, 51] := by kernel_rfl
  have q3 : rd (-3 : Rat) ≤ 1 := by rw [show (-3 : Rat) = ((-3 : Int) : Rat) from rfl]; exact rd_int (by decide) (by decide)
  have px := fun (v : V3) (k' : Nat) (hv : Sz3 k' v) (hk' : 3 * k' ≤ 190) (hz : zer3 v = false) => by
    have := Tryz.sPixel k R (tx3 v) (szS_tx hv hk')
    rw [pixR_ok hk (by omega) (by omega) (hv.more (by omega)) hz, show ((R : Int)).toNat = R by omega] at this
    exact this
  have hdot := dot_nonneg V
  refine ⟨pixV (areaB k) R V, pixV (areaB k) R (sc3 V (-1)), pixV (areaB k) R (-V.2.1, V.1, V.2.2), px V 3 hV (by decide) hn,
    ⟨tx3 (sc3 V q), Tryz.kscale V q (hV.more (by decide)) (by omega), ?_⟩,
    ⟨tx3 (sc3 V (-1)), by have := Tryz.kscale V (-1) (hV.more (by decide)) (by have := rd_m1; omega); rwa [r1] at this, px _ 4 (sz_sc hV rd_m1) (by decide) (zer_sc hn (by decide))⟩,
    ⟨rt (-V.2.1), Tryz.qneg V.2.1 (by have := hV.2.1; omega), px (-V.2.1, V.1, V.2.2) 3 ⟨by show rd (-V.2.1) ≤ 3; rw [rd_neg]; exact hV.2.1, hV.1, hV.2.2⟩ (by decide) ?_⟩,
    ⟨tx3 (sc3 V (-3)), by have := Tryz.kscale V (-3) (hV.more (by decide)) (by omega); rwa [r3] at this, ?_⟩, ?_, ?_, pixV_turn hz, (pixV_le _ _ _).1⟩
  · have := px (sc3 V q) 8 (sz_sc hV hqr) (by decide) (zer_sc hn (fun h => by rw [h] at hq; exact absurd hq (by decide)))
    rwa [pixV_scale hq] at this
  · refine decide_eq_false fun h => (of_decide_eq_false hn) ?_
    simp only [Prod.mk.injEq] at h
    exact Prod.ext h.2.1 (Prod.ext (by have := h.1; grind) h.2.2)
  · obtain ⟨il, hil, he⟩ := with_all (a := V) (q := 1) (l := [V, sc3 V (-3)]) (hV.more (by decide)) (by have := rd_01'; omega) (by decide) (by decide) (fun v hv => by
      simp only [List.mem_cons, List.not_mem_nil, or_false] at hv
      rcases hv with rfl | rfl
      · exact ⟨⟨hV.more (by decide), hn⟩, by grind⟩
      · refine ⟨⟨(sz_sc hV q3).more (by decide), zer_sc hn (by decide)⟩, ?_⟩
        have e1 : dot3 (sc3 V (-3)) (sc3 V (-3)) = 9 * dot3 V V := by unfold dot3 sc3; grind
        have e2 : dot3 V (sc3 V (-3)) = -3 * dot3 V V := by unfold dot3 sc3; grind
        rw [e1, e2]; grind) hn (by simp)
    refine ⟨il, hil, ?_⟩
    have := Tryz.swithin (tx3 V) (rt 1) ([V, sc3 V (-3)].map tx3) (szS_tx hV (by decide)) (by rw [rt_p1']; decide) (by simp) (fun v hv => by
      simp only [List.map_cons, List.map_nil, List.mem_cons, List.not_mem_nil, or_false] at hv
      rcases hv with rfl | rfl
      · exact szS_tx hV (by decide)
      · exact szS_tx (sz_sc hV q3) (by decide))
    rw [he, rt_p1'] at this
    exact this
  · have hs : Sz3 3 (1, 2, 3) := ⟨by decide +kernel, by decide +kernel, by decide +kernel⟩
    have ht : tx3 (1, 2, 3) = ([49], [50], [51]) := by kernel_rfl
    obtain ⟨il, hil, he⟩ := with_all (a := (1, 2, 3)) (q := 0) (l := [V]) (hs.more (by decide)) (by have := rd_01.1; omega) (by decide) (by decide) (fun v hv => by
      have : v = V := by simpa using hv
      subst this
      refine ⟨⟨hV.more (by decide), hn⟩, ?_⟩
      have := sq_nonneg (dot3 (1, 2, 3) v)
      grind) (by decide) (by simp)
    refine ⟨il, hil, ?_⟩
    have := Tryz.swithin (tx3 (1, 2, 3)) (rt 0) ([V].map tx3) (szS_tx hs (by decide)) (by rw [zero_txt]; decide) (by simp) (fun v hv => by
      have : v = tx3 V := by simpa using hv
      rw [this]; exact szS_tx hV (by decide))
    rw [he, zero_txt, ht] at this
    exact this
  · by_cases h0 : V.2.2 = 0
    · right
      show rt V.2.2 = [48]
      rw [h0, zero_txt]
    · left
      exact (pixV_neg h0).symm
end Go.Proofs

/-
  STEREONET: the law on turned directions. Own work.
-/
namespace Go.Proofs
open Go Go.Pi Go.RowKit Go.Ar Go.Ne

theorem bitAnd_le (x : Int) (m : Nat) (hm : m < 1000) : 0 ≤ bitAnd .i64 x m ∧ bitAnd .i64 x m ≤ m := by
  unfold bitAnd
  have h1 : (BitVec.ofInt IntKind.i64.bits x &&& BitVec.ofInt IntKind.i64.bits (m : Int)).toNat ≤ m := by
    rw [BitVec.toNat_and]
    refine Nat.le_trans Nat.and_le_right ?_
    rw [BitVec.toNat_ofInt]
    show (((m : Int) % ((2 : Nat) ^ 64 : Nat)).toNat) ≤ m
    omega
  generalize (BitVec.ofInt IntKind.i64.bits x &&& BitVec.ofInt IntKind.i64.bits (m : Int)).toNat = y at *
  have : IntKind.i64.wrap (y : Int) = y := by rw [IntKind.wrap_i64]; omega
  rw [this]; omega
theorem sqR {x R : Int} (h1 : -R ≤ x) (h2 : x ≤ R) (hR : R ≤ 200) : x * x ≤ R * R ∧ 0 ≤ x * x ∧ x * x ≤ 40000 ∧ R * R ≤ 40000 ∧ 0 ≤ R * R := by
  have h3 := Int.mul_nonneg (show 0 ≤ R - x by omega) (show 0 ≤ R + x by omega)
  have e : (R - x) * (R + x) = R * R - x * x := by grind
  have h4 := Int.mul_nonneg (show 0 ≤ 200 - R by omega) (show 0 ≤ 200 + R by omega)
  have e4 : (200 - R) * (200 + R) = 40000 - R * R := by grind
  have h5 : 0 ≤ x * x := by
    rcases Int.le_total 0 x with h | h
    · exact Int.mul_nonneg h h
    · have := Int.mul_nonneg (show 0 ≤ -x by omega) (show 0 ≤ -x by omega)
      have e2 : -x * -x = x * x := by grind
      omega
  omega
def Tryz.tR : PC := match pc6 with
  | .seq _ (.seq _ (.seq _ (.seq _ (.seq _ (.seq _ r))))) => r
  | _ => .skip
def Tryz.tC : PC → PC
  | .seq a (.seq b (.seq c (.seq d (.seq e (.seq f _))))) => .seq a (.seq b (.seq c (.seq d (.seq e (.seq f Tryz.tR)))))
  | x => x
theorem Tryz.tC_eq : pc6 = Tryz.tC pc6 := rfl
set_option maxRecDepth 100000 in
set_option maxHeartbeats 16000000 in
theorem Tryz.turnsRest (k : Int) (r m : Nat) (n : Int) (hm : n.tmod 9 = m) (hm2 : m < 9) (hr2 : r < 200) (hK : k = 1 ∨ k = 2) (V : V3) (S : S3) (hS : tx3 V = S) (hV : Sz3 3 V) (hz : V.2.2 ≤ 0) (hn : zer3 V = false) (X : Env) (hX : X = [] ∨ ∃ b, X = [(52, .bool b)]) :
    wC (Con Tryz.prog Tryz.L) Tryz.tR (retQ rs6 (.bool true)) ([(2, .int .u8 n), (3, .box true [.int .i64 k, .int .i64 (1 + (r : Int))]), (7, .box true [.str S.1, .str S.2.1, .str S.2.2])] ++ X) := by
  have hq0 : (0 : Rat) < mkRat (1 + m) 2 := by
    have e := two_half (1 + (m : Int))
    have h3 : (0 : Rat) < ((1 + (m : Int) : Int) : Rat) := Rat.intCast_pos.2 (by omega)
    grind
  have hqr : rd (mkRat (1 + m) 2) ≤ 5 := rd_half (by omega)
  have cq := Tryz.qof (1 + (m : Int)) 2 (by decide) (by rw [inR_i64]; omega) (by rw [inR_i64]; omega)
  have eR : ((1 + r : Nat) : Int) = 1 + (r : Int) := by omega
  obtain ⟨pa, pc, pd, c1, ⟨S2, c2, c2'⟩, ⟨S3, c3, c3'⟩, ⟨t4, c4, c4'⟩, ⟨S5, c5, il, hil, c5'⟩, ⟨il2, hil2, c6⟩, f1, f2, f3⟩ := Tryz.turnFacts k (1 + r) hK (by omega) (by omega) V S hS hV hz hn (mkRat (1 + m) 2) hq0 hqr
  obtain ⟨a1, a2⟩ := pa
  obtain ⟨e1, e2⟩ := pc
  obtain ⟨g1, g2⟩ := pd
  obtain ⟨s1, s2, s3⟩ := S
  have hg : a1 = g2 := f2.symm
  subst hg
  rw [hil] at c5'
  rw [hil2] at c6
  have hsq := sqR (x := a1) (R := 1 + (r : Int)) (by have := f3.1; rw [eR] at this; exact this) (by have := f3.2; rw [eR] at this; exact this) (by omega)
  clear hS hV hz hn hq0 hqr hil hil2 f2 f3
  generalize ints .i64 il = il at *
  generalize ints .i64 il2 = il2 at *
  simp only [eR, netD, svD, pxD, hm, Prod.mk.injEq, evX, evY, evZ, forall_const, implies_true, initE, stepF, D.clean, mvF, moF, tkF, shF, ariF, ciF, catF, scF, ebF, eqF, eqOk, eqPr, enF, notF, ngF, cvF, csF, csbF, lenF, lenSF, ixF, iaF, PX.slot, iaAF, faF, ldF, D.mem, stF, bxF, mkSF, boundF, fldF, ixAF, mmF2, D.plain, D.isPure, optAll, D.dull, callVF, splice, D.cells, D.one, sets, resT, D.flat, D.flat0, D.simple, Nat.reduceBNe, Nat.reduceLT, reduceIte, Nat.reduceEqDiff, Nat.reduceAdd, Nat.reduceMul, Nat.reduceSub, Nat.reduceLeDiff, Int.reduceToNat, Int.reduceLT, Int.reduceLE, Int.reduceEq, Int.reduceNeg, Int.reduceSub, Int.reduceAdd, Int.reduceMul, stG_own] at c1 c2 c2' c3 c3' c4 c4' c5 c5' c6 f1 ⊢
  rcases hX with rfl | ⟨b52, rfl⟩
  all_goals
    simp only [Tryz.tR, pc6, rs6, oU, oC, hm, evX, evY, evZ, forall_const, implies_true, initE, stepF, D.clean, mvF, moF, tkF, shF, ariF, ciF, catF, scF, ebF, eqF, eqOk, eqPr, enF, notF, ngF, cvF, csF, csbF, lenF, lenSF, ixF, iaF, PX.slot, iaAF, faF, ldF, D.mem, stF, bxF, mkSF, boundF, fldF, ixAF, mmF2, D.plain, D.isPure, optAll, D.dull, callVF, splice, D.cells, D.one, sets, resT, D.flat, D.flat0, D.simple, Nat.reduceBNe, Nat.reduceLT, reduceIte, Nat.reduceEqDiff, Nat.reduceAdd, Nat.reduceMul, Nat.reduceSub, Nat.reduceLeDiff, Int.reduceToNat, Int.reduceLT, Int.reduceLE, Int.reduceEq, Int.reduceNeg, Int.reduceSub, Int.reduceAdd, Int.reduceMul, stG_own]
    refine callF_of c1 ?_
    simp only [hm, evX, evY, evZ, forall_const, implies_true, initE, stepF, D.clean, mvF, moF, tkF, shF, ariF, ciF, catF, scF, ebF, eqF, eqOk, eqPr, enF, notF, ngF, cvF, csF, csbF, lenF, lenSF, ixF, iaF, PX.slot, iaAF, faF, ldF, D.mem, stF, bxF, mkSF, boundF, fldF, ixAF, mmF2, D.plain, D.isPure, optAll, D.dull, callVF, splice, D.cells, D.one, sets, resT, D.flat, D.flat0, D.simple, Nat.reduceBNe, Nat.reduceLT, reduceIte, Nat.reduceEqDiff, Nat.reduceAdd, Nat.reduceMul, Nat.reduceSub, Nat.reduceLeDiff, Int.reduceToNat, Int.reduceLT, Int.reduceLE, Int.reduceEq, Int.reduceNeg, Int.reduceSub, Int.reduceAdd, Int.reduceMul, stG_own]
    refine ⟨⟨by omega, by omega⟩, ⟨by omega, by omega⟩, ?_⟩
    refine callF_of cq ?_
    (refine ev ?_; try with_reducible exact trivial)
    refine callF_of c2 ?_
    (refine ev ?_; try with_reducible exact trivial)
    refine callF_of c2' ?_
    (refine ev ?_; try with_reducible exact trivial)
    refine callF_of c3 ?_
    (refine ev ?_; try with_reducible exact trivial)
    refine callF_of c3' ?_
    (refine ev ?_; try with_reducible exact trivial)
    refine callF_of c4 ?_
    (refine ev ?_; try with_reducible exact trivial)
    refine callF_of c4' ?_
    (refine ev ?_; try with_reducible exact trivial)
    refine callF_of c5 ?_
    (refine ev ?_; try with_reducible exact trivial)
    refine callF_of c5' ?_
    (refine ev ?_; try with_reducible exact trivial)
    refine callF_of c6 ?_
    by_cases h1 : a1 = e1 ∧ a2 = e2
    · obtain ⟨rfl, rfl⟩ := h1
      clear f1 c1 c2 c2' c3 c3' c4 c4' c5 c5' c6 cq
      simp (maxSteps := 2000000) only [evX, evY, evZ, forall_const, implies_true, initE, stepF, D.clean, mvF, moF, tkF, shF, ariF, ciF, catF, scF, ebF, eqF, eqOk, eqPr, enF, notF, ngF, cvF, csF, csbF, lenF, lenSF, ixF, iaF, PX.slot, iaAF, faF, ldF, D.mem, stF, bxF, mkSF, boundF, fldF, ixAF, mmF2, D.plain, D.isPure, optAll, D.dull, callVF, splice, D.cells, D.one, sets, resT, D.flat, D.flat0, D.simple, Nat.reduceBNe, Nat.reduceLT, reduceIte, Nat.reduceEqDiff, Nat.reduceAdd, Nat.reduceMul, Nat.reduceSub, Nat.reduceLeDiff, Int.reduceToNat, Int.reduceLT, Int.reduceLE, Int.reduceEq, Int.reduceNeg, Int.reduceSub, Int.reduceAdd, Int.reduceMul, stG_own]
      exact ⟨fun _ => ⟨fun _ => ⟨⟨by omega, by omega⟩, ⟨by omega, by omega⟩, dB_iff.2 hsq.1⟩, fun h => absurd rfl h⟩, fun h => absurd rfl h⟩
    · obtain rfl := f1.resolve_left h1
      clear c1 c2 c2' c3 c3' c4 c4' c5 c5' c6 cq
      simp (maxSteps := 2000000) only [evX, evY, evZ, forall_const, implies_true, initE, stepF, D.clean, mvF, moF, tkF, shF, ariF, ciF, catF, scF, ebF, eqF, eqOk, eqPr, enF, notF, ngF, cvF, csF, csbF, lenF, lenSF, ixF, iaF, PX.slot, iaAF, faF, ldF, D.mem, stF, bxF, mkSF, boundF, fldF, ixAF, mmF2, D.plain, D.isPure, optAll, D.dull, callVF, splice, D.cells, D.one, sets, resT, D.flat, D.flat0, D.simple, Nat.reduceBNe, Nat.reduceLT, reduceIte, Nat.reduceEqDiff, Nat.reduceAdd, Nat.reduceMul, Nat.reduceSub, Nat.reduceLeDiff, Int.reduceToNat, Int.reduceLT, Int.reduceLE, Int.reduceEq, Int.reduceNeg, Int.reduceSub, Int.reduceAdd, Int.reduceMul, stG_own]
      exact ⟨fun _ => ⟨fun _ => ⟨fun _ => ⟨⟨by omega, by omega⟩, ⟨by omega, by omega⟩, dB_iff.2 hsq.1⟩, fun h => absurd rfl h⟩, fun h => absurd rfl h⟩, fun _ => ⟨fun _ => ⟨fun _ => ⟨⟨by omega, by omega⟩, ⟨by omega, by omega⟩, dB_iff.2 hsq.1⟩, fun h => absurd rfl h⟩, fun h => absurd rfl h⟩⟩
set_option maxRecDepth 100000 in
set_option maxHeartbeats 8000000 in
theorem Tryz.stereonetTurns (k0 R0 : Int) (x : Int × Int × Int) (n : Int) (hx : (-128 ≤ x.1 ∧ x.1 ≤ 127) ∧ (-128 ≤ x.2.1 ∧ x.2.1 ≤ 127) ∧ (-128 ≤ x.2.2 ∧ x.2.2 ≤ 127)) (h0 : 0 ≤ n) (h1 : n ≤ 255) :
    Con Tryz.prog Tryz.L 6 [netD k0 R0, .agg [.int .i8 x.1, .int .i8 x.2.1, .int .i8 x.2.2], .int .u8 n] (.bool true) := by
  have hk := Tryz.known18
  obtain ⟨⟨x1, x2⟩, ⟨y1, y2⟩, ⟨z1, z2⟩⟩ := hx
  have b1 : 0 ≤ bitAnd .i64 k0 1 ∧ bitAnd .i64 k0 1 ≤ 1 := bitAnd_le k0 1 (by decide)
  have b2 : 0 ≤ bitAnd .i64 R0 255 ∧ bitAnd .i64 R0 255 ≤ 255 := bitAnd_le R0 255 (by decide)
  have b3 : ∃ r : Nat, (bitAnd .i64 R0 255).tmod 200 = r ∧ r < 200 := ⟨((bitAnd .i64 R0 255).tmod 200).toNat, by rw [Int.tmod_eq_emod_of_nonneg b2.1]; omega, by rw [Int.tmod_eq_emod_of_nonneg b2.1]; omega⟩
  obtain ⟨r, hr, hr2⟩ := b3
  have b4 : ∃ m : Nat, n.tmod 9 = m ∧ m < 9 := ⟨(n.tmod 9).toNat, by rw [Int.tmod_eq_emod_of_nonneg h0]; omega, by rw [Int.tmod_eq_emod_of_nonneg h0]; omega⟩
  obtain ⟨m, hm, hm2⟩ := b4
  have o1 := Tryz.qof1 x.1 (by rw [inR_i64]; omega)
  have o2 := Tryz.qof1 x.2.1 (by rw [inR_i64]; omega)
  have o3 := Tryz.qof1 x.2.2 (by rw [inR_i64]; omega)
  have hz0 := Tryz.kzero (tx3 ((x.1 : Rat), (x.2.1 : Rat), (x.2.2 : Rat)))
  rw [zS_tx] at hz0
  refine rule6 Tryz.hL rfl rfl rfl ?_
  rw [Tryz.tC_eq]
  simp only [netD, svD, tx3, Tryz.tC, pc6, oU, oC, evX, evY, evZ, forall_const, implies_true, initE, stepF, D.clean, mvF, moF, tkF, shF, ariF, ciF, catF, scF, ebF, eqF, eqOk, eqPr, enF, notF, ngF, cvF, csF, csbF, lenF, lenSF, ixF, iaF, PX.slot, iaAF, faF, ldF, D.mem, stF, bxF, mkSF, boundF, fldF, ixAF, mmF2, D.plain, D.isPure, optAll, D.dull, callVF, splice, D.cells, D.one, sets, resT, D.flat, D.flat0, D.simple, Nat.reduceBNe, Nat.reduceLT, reduceIte, Nat.reduceEqDiff, Nat.reduceAdd, Nat.reduceMul, Nat.reduceSub, Nat.reduceLeDiff, Int.reduceToNat, Int.reduceLT, Int.reduceLE, Int.reduceEq, Int.reduceNeg, Int.reduceSub, Int.reduceAdd, Int.reduceMul, stG_own] at hz0 ⊢
  refine callF_of hk ?_
  simp only [hr, evX, evY, evZ, forall_const, implies_true, initE, stepF, D.clean, mvF, moF, tkF, shF, ariF, ciF, catF, scF, ebF, eqF, eqOk, eqPr, enF, notF, ngF, cvF, csF, csbF, lenF, lenSF, ixF, iaF, PX.slot, iaAF, faF, ldF, D.mem, stF, bxF, mkSF, boundF, fldF, ixAF, mmF2, D.plain, D.isPure, optAll, D.dull, callVF, splice, D.cells, D.one, sets, resT, D.flat, D.flat0, D.simple, Nat.reduceBNe, Nat.reduceLT, reduceIte, Nat.reduceEqDiff, Nat.reduceAdd, Nat.reduceMul, Nat.reduceSub, Nat.reduceLeDiff, Int.reduceToNat, Int.reduceLT, Int.reduceLE, Int.reduceEq, Int.reduceNeg, Int.reduceSub, Int.reduceAdd, Int.reduceMul, stG_own]
  have hK : 1 + bitAnd .i64 k0 1 = 1 ∨ 1 + bitAnd .i64 k0 1 = 2 := by omega
  refine ⟨by omega, by omega, by omega, by omega, ?_⟩
  refine callF_of o1 ?_
  simp only [hr, evX, evY, evZ, forall_const, implies_true, initE, stepF, D.clean, mvF, moF, tkF, shF, ariF, ciF, catF, scF, ebF, eqF, eqOk, eqPr, enF, notF, ngF, cvF, csF, csbF, lenF, lenSF, ixF, iaF, PX.slot, iaAF, faF, ldF, D.mem, stF, bxF, mkSF, boundF, fldF, ixAF, mmF2, D.plain, D.isPure, optAll, D.dull, callVF, splice, D.cells, D.one, sets, resT, D.flat, D.flat0, D.simple, Nat.reduceBNe, Nat.reduceLT, reduceIte, Nat.reduceEqDiff, Nat.reduceAdd, Nat.reduceMul, Nat.reduceSub, Nat.reduceLeDiff, Int.reduceToNat, Int.reduceLT, Int.reduceLE, Int.reduceEq, Int.reduceNeg, Int.reduceSub, Int.reduceAdd, Int.reduceMul, stG_own]
  refine ⟨by omega, by omega, ?_⟩
  refine callF_of o2 ?_
  simp only [hr, evX, evY, evZ, forall_const, implies_true, initE, stepF, D.clean, mvF, moF, tkF, shF, ariF, ciF, catF, scF, ebF, eqF, eqOk, eqPr, enF, notF, ngF, cvF, csF, csbF, lenF, lenSF, ixF, iaF, PX.slot, iaAF, faF, ldF, D.mem, stF, bxF, mkSF, boundF, fldF, ixAF, mmF2, D.plain, D.isPure, optAll, D.dull, callVF, splice, D.cells, D.one, sets, resT, D.flat, D.flat0, D.simple, Nat.reduceBNe, Nat.reduceLT, reduceIte, Nat.reduceEqDiff, Nat.reduceAdd, Nat.reduceMul, Nat.reduceSub, Nat.reduceLeDiff, Int.reduceToNat, Int.reduceLT, Int.reduceLE, Int.reduceEq, Int.reduceNeg, Int.reduceSub, Int.reduceAdd, Int.reduceMul, stG_own]
  refine ⟨by omega, by omega, ?_⟩
  refine callF_of o3 ?_
  simp only [hr, evX, evY, evZ, forall_const, implies_true, initE, stepF, D.clean, mvF, moF, tkF, shF, ariF, ciF, catF, scF, ebF, eqF, eqOk, eqPr, enF, notF, ngF, cvF, csF, csbF, lenF, lenSF, ixF, iaF, PX.slot, iaAF, faF, ldF, D.mem, stF, bxF, mkSF, boundF, fldF, ixAF, mmF2, D.plain, D.isPure, optAll, D.dull, callVF, splice, D.cells, D.one, sets, resT, D.flat, D.flat0, D.simple, Nat.reduceBNe, Nat.reduceLT, reduceIte, Nat.reduceEqDiff, Nat.reduceAdd, Nat.reduceMul, Nat.reduceSub, Nat.reduceLeDiff, Int.reduceToNat, Int.reduceLT, Int.reduceLE, Int.reduceEq, Int.reduceNeg, Int.reduceSub, Int.reduceAdd, Int.reduceMul, stG_own]
  refine callF_of hz0 ?_
  have hV0 : Sz3 3 ((x.1 : Rat), (x.2.1 : Rat), (x.2.2 : Rat)) := ⟨rd_int (by decide) (by omega), rd_int (by decide) (by omega), rd_int (by decide) (by omega)⟩
  by_cases hzz : zer3 ((x.1 : Rat), (x.2.1 : Rat), (x.2.2 : Rat)) = true
  · rw [hzz]
    have h3 : ((x.1 : Rat), (x.2.1 : Rat), (x.2.2 : Rat)) = (0, 0, 0) := of_decide_eq_true hzz
    simp only [Prod.mk.injEq] at h3
    rw [h3.1, h3.2.1]
    have cs := Tryz.qsign (-1) (by have := rd_m1; omega)
    rw [rt_m1, show (-1 : Rat).num.sign = -1 from rfl] at cs
    simp only [zero_txt, evX, evY, evZ, forall_const, implies_true, initE, stepF, D.clean, mvF, moF, tkF, shF, ariF, ciF, catF, scF, ebF, eqF, eqOk, eqPr, enF, notF, ngF, cvF, csF, csbF, lenF, lenSF, ixF, iaF, PX.slot, iaAF, faF, ldF, D.mem, stF, bxF, mkSF, boundF, fldF, ixAF, mmF2, D.plain, D.isPure, optAll, D.dull, callVF, splice, D.cells, D.one, sets, resT, D.flat, D.flat0, D.simple, Nat.reduceBNe, Nat.reduceLT, reduceIte, Nat.reduceEqDiff, Nat.reduceAdd, Nat.reduceMul, Nat.reduceSub, Nat.reduceLeDiff, Int.reduceToNat, Int.reduceLT, Int.reduceLE, Int.reduceEq, Int.reduceNeg, Int.reduceSub, Int.reduceAdd, Int.reduceMul, stG_own]
    refine callF_of cs ?_
    (refine ev ?_; try with_reducible exact trivial)
    exact Tryz.turnsRest (1 + bitAnd .i64 k0 1) r m n hm hm2 hr2 hK (0, 0, -1) ([48], [48], [45, 49]) (by simp only [tx3, zero_txt, rt_m1]) ⟨by have := rd_01.1; decide +kernel, by decide +kernel, by decide +kernel⟩ (by decide) (by decide) _ (.inr ⟨_, rfl⟩)
  · have hzf : zer3 ((x.1 : Rat), (x.2.1 : Rat), (x.2.2 : Rat)) = false := by simpa using hzz
    rw [hzf]
    generalize (x.1 : Rat) = X at *
    generalize (x.2.1 : Rat) = Y at *
    generalize (x.2.2 : Rat) = Z at *
    have cs := Tryz.qsign Z (by have : rd Z ≤ 3 := hV0.2.2; omega)
    have hps := sgn_pos Z
    (refine ev ?_; try with_reducible exact trivial)
    refine callF_of cs ?_
    (refine ev ?_; try with_reducible exact trivial)
    refine ⟨fun h => ?_, fun h => ?_⟩
    · have hZ := hps.1 (by omega)
      have ck := Tryz.kscale (X, Y, Z) (-1) (hV0.more (by decide)) (by have := rd_m1; omega)
      rw [rt_m1] at ck
      have hzn : zer3 (sc3 (X, Y, Z) (-1)) = false := zer_sc hzf (by decide)
      have hVs : Sz3 3 (sc3 (X, Y, Z) (-1)) := by
        rw [sc_neg1]
        exact ⟨by show rd (-X) ≤ 3; rw [rd_neg]; exact hV0.1, by show rd (-Y) ≤ 3; rw [rd_neg]; exact hV0.2.1, by show rd (-Z) ≤ 3; rw [rd_neg]; exact hV0.2.2⟩
      have hZ2 : (sc3 (X, Y, Z) (-1)).2.2 ≤ 0 := by show Z * -1 ≤ 0; grind
      have hr1 : ∀ v : V3, tx3 v = (rt v.1, rt v.2.1, rt v.2.2) := fun _ => rfl
      simp only [hr1, svD, evX, evY, evZ, forall_const, implies_true, initE, stepF, D.clean, mvF, moF, tkF, shF, ariF, ciF, catF, scF, ebF, eqF, eqOk, eqPr, enF, notF, ngF, cvF, csF, csbF, lenF, lenSF, ixF, iaF, PX.slot, iaAF, faF, ldF, D.mem, stF, bxF, mkSF, boundF, fldF, ixAF, mmF2, D.plain, D.isPure, optAll, D.dull, callVF, splice, D.cells, D.one, sets, resT, D.flat, D.flat0, D.simple, Nat.reduceBNe, Nat.reduceLT, reduceIte, Nat.reduceEqDiff, Nat.reduceAdd, Nat.reduceMul, Nat.reduceSub, Nat.reduceLeDiff, Int.reduceToNat, Int.reduceLT, Int.reduceLE, Int.reduceEq, Int.reduceNeg, Int.reduceSub, Int.reduceAdd, Int.reduceMul, stG_own] at ck
      refine callF_of ck ?_
      generalize sc3 (X, Y, Z) (-1) = V at *
      (refine ev ?_; try with_reducible exact trivial)
      exact Tryz.turnsRest (1 + bitAnd .i64 k0 1) r m n hm hm2 hr2 hK V (rt V.1, rt V.2.1, rt V.2.2) rfl hVs hZ2 hzn [] (.inl rfl)
    · have hZ : Z ≤ 0 := Rat.not_lt.1 (fun h2 => h (by have := hps.2 h2; omega))
      exact Tryz.turnsRest (1 + bitAnd .i64 k0 1) r m n hm hm2 hr2 hK (X, Y, Z) (rt X, rt Y, rt Z) rfl hV0 hZ hzf _ (.inr ⟨_, rfl⟩)
end Go.Proofs
