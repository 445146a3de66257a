/-
  STEREONET: the chapter's examples: known() is true. Own work.
-/
import Derived.Test.YtidmnjnhccoblaaGreatDoorPj
import Derived.Test.YtidmnjnhccoblaaGreatDoorSg
import Derived.Test.YtidmnjnhccoblaaGreatDoorEh
import Derived.Test.YtidmnjnhccoblaaGreatDoorSf
set_option linter.unusedVariables false
set_option linter.unusedSimpArgs false
namespace Go.Proofs
open Go Go.Pi Go.RowKit Go.Ar Go.Ne

theorem val_of (q : Rat) (h : rd q ≤ 200) : val (rt q) = q := by
  have := val_rt (s := rt q) ⟨q, rfl, h⟩
  exact (rt_inj this).symm
theorem px_one : pixV false 100 (1, 0, -1) = (41, 0) := by decide +kernel
theorem px_two : pixV true 100 (1, 0, 1) = (-54, 0) := by decide +kernel
theorem px_down : pixV false 1 (0, 0, -1) = (0, 0) := by decide +kernel
theorem rt_p0 : rt 0 = [48] := zero_txt
theorem rt_p1 : rt 1 = [49] := by kernel_rfl
theorem rd_01 : rd (0 : Rat) ≤ 200 ∧ rd (1 : Rat) ≤ 200 ∧ rd (-1 : Rat) ≤ 200 := ⟨by rw [show (0 : Rat) = ((0 : Int) : Rat) from rfl]; exact Nat.le_trans (rd_int (k := 1) (by decide) (by decide)) (by decide), by rw [show (1 : Rat) = ((1 : Int) : Rat) from rfl]; exact Nat.le_trans (rd_int (k := 1) (by decide) (by decide)) (by decide), Nat.le_trans rd_m1 (by decide)⟩
theorem vl_0 : val [48] = 0 := by rw [← rt_p0]; exact val_of 0 rd_01.1
theorem vl_1 : val [49] = 1 := by rw [← rt_p1]; exact val_of 1 rd_01.2.1
theorem vl_m1 : val [45, 49] = -1 := by rw [← rt_m1]; exact val_of (-1) rd_01.2.2
theorem ok_0 : okR [48] := ⟨0, rt_p0.symm, rd_01.1⟩
theorem ok_1 : okR [49] := ⟨1, rt_p1.symm, rd_01.2.1⟩
theorem ok_m1 : okR [45, 49] := ⟨-1, rt_m1.symm, rd_01.2.2⟩
theorem Tryz.kpix1 : pixR 1 100 ([49], [48], [45, 49]) = .tup [.agg [.int .i64 41, .int .i64 0], .int .i64 0] := by
  unfold pixR
  rw [if_pos (errN_0.2 ⟨fun v hv => by rw [List.mem_singleton.1 hv]; exact ⟨ok_1, ok_0, ok_m1⟩, by decide, by decide⟩)]
  have e : val3 ([49], [48], [45, 49]) = (1, 0, -1) := by simp only [val3, vl_0, vl_1, vl_m1]
  have ea : areaB 1 = false := rfl
  rw [e, ea, show (100 : Int).toNat = 100 from rfl, px_one]
  rfl
theorem Tryz.kpix2 : pixR 2 100 ([49], [48], [49]) = .tup [.agg [.int .i64 (-54), .int .i64 0], .int .i64 0] := by
  unfold pixR
  rw [if_pos (errN_0.2 ⟨fun v hv => by rw [List.mem_singleton.1 hv]; exact ⟨ok_1, ok_0, ok_1⟩, by decide, by decide⟩)]
  have e : val3 ([49], [48], [49]) = (1, 0, 1) := by simp only [val3, vl_0, vl_1]
  have ea : areaB 2 = true := rfl
  rw [e, ea, show (100 : Int).toNat = 100 from rfl, px_two]
  rfl
def dn : S3 := ([48], [48], [45, 49])
theorem Tryz.kpic : picR 1 1 [dn, dn] = .tup [.sl 3 [.str [32, 46, 32], .str [46, 50, 46], .str [32, 46, 32]], .int .i64 0] := by
  have hz : zerE [dn, dn] = 0 := by decide
  have hn : numE [dn, dn] = 0 := num_0.2 (fun v hv => by
    have : v = dn := by simpa using hv
    rw [this]; exact ⟨ok_0, ok_0, ok_m1⟩)
  have he : picE 1 1 [dn, dn] = 0 := by unfold picE; rw [hn, hz]; decide
  unfold picR
  rw [if_pos he]
  have hp : ∀ i, i < 2 → pxs 1 1 [dn, dn] i = (0, 0) := fun i hi => by
    have e : val3 dn = (0, 0, -1) := by simp only [val3, dn, vl_0, vl_m1]
    have : [dn, dn].getD i ([], [], []) = dn := by
      match i, hi with
      | 0, _ => rfl
      | 1, _ => rfl
    unfold pxs
    rw [this, e]
    exact px_down
  have hc : cntP (pxs 1 (1 : Int).toNat [dn, dn]) [dn, dn].length = fun c r => if c = 0 ∧ r = 0 then 2 else 0 := by
    funext c r
    show cntP (pxs 1 1 [dn, dn]) 2 c r = _
    simp only [cntP, hp 0 (by decide), hp 1 (by decide)]
    split <;> simp_all
  rw [hc]
  rfl
set_option maxHeartbeats 4000000 in
theorem Tryz.eqStr3 (x y z : List UInt8) : Con Tryz.prog Tryz.L 37 [.sl 3 [.str x, .str y, .str z], .sl 3 [.str x, .str y, .str z]] (.bool true) := by
  refine rule37 Tryz.hL rfl rfl rfl ?_
  (simp only [pc37, rs37, oU, oC]; refine ev ?_; try with_reducible exact trivial)
  refine loopF_of (fun E => ∃ k : Nat, k ≤ 3 ∧ E = [(0, .sl 3 [.str x, .str y, .str z]), (1, .sl 3 [.str x, .str y, .str z]), (12, .int .i64 3), (13, .int .i64 k)])
    (fun E => match lk E 13 with | .int _ i => 3 - i.toNat | _ => 0) ⟨0, by omega, rfl⟩ ?_
  rintro _ ⟨k, hk, rfl⟩
  obtain rfl | rfl | rfl | rfl : k = 0 ∨ k = 1 ∨ k = 2 ∨ k = 3 := by omega
  · (refine ev ?_; try with_reducible exact trivial)
    exact fun _ => ⟨⟨by decide, by decide⟩, ⟨by decide, by decide⟩, ⟨by decide, by decide⟩, ⟨1, by omega, rfl⟩, by decide⟩
  · (refine ev ?_; try with_reducible exact trivial)
    exact fun _ => ⟨⟨by decide, by decide⟩, ⟨by decide, by decide⟩, ⟨by decide, by decide⟩, ⟨2, by omega, rfl⟩, by decide⟩
  · (refine ev ?_; try with_reducible exact trivial)
    exact fun _ => ⟨⟨by decide, by decide⟩, ⟨by decide, by decide⟩, ⟨by decide, by decide⟩, ⟨3, by omega, rfl⟩, by decide⟩
  · (refine ev ?_; try with_reducible exact trivial)
    exact fun h => absurd h (by omega)
set_option maxRecDepth 100000 in
set_option maxHeartbeats 4000000 in
theorem Tryz.known18 : Con Tryz.prog Tryz.L 10 [] (.bool true) := by
  have c1 := Tryz.sPixel 1 100 ([49], [48], [45, 49]) ⟨by decide, by decide, by decide⟩
  have c2 := Tryz.sPixel 2 100 ([49], [48], [49]) ⟨by decide, by decide, by decide⟩
  have c3 := Tryz.spicture 1 1 [dn, dn] (by decide) (fun v hv => by
    have : v = dn := by simpa using hv
    rw [this]; exact ⟨by decide, by decide, by decide⟩)
  rw [Tryz.kpix1] at c1
  rw [Tryz.kpix2] at c2
  rw [Tryz.kpic] at c3
  have c4 := Tryz.eqStr3 [32, 46, 32] [46, 50, 46] [32, 46, 32]
  have e3 : svs [dn, dn] = [.str [48], .str [48], .str [45, 49], .str [48], .str [48], .str [45, 49]] := rfl
  rw [lS, e3] at c3
  refine rule10 Tryz.hL rfl rfl rfl ?_
  simp only [netD, svD, pc10, rs10, oU, oC, evX, evY, evZ, forall_const, implies_true, initE, stepF, D.clean, mvF, moF, tkF, shF, ariF, ciF, catF, scF, ebF, eqF, eqOk, eqPr, enF, notF, ngF, cvF, csF, csbF, lenF, lenSF, ixF, iaF, PX.slot, iaAF, faF, ldF, D.mem, stF, bxF, mkSF, boundF, fldF, ixAF, mmF2, D.plain, D.isPure, optAll, D.dull, callVF, splice, D.cells, D.one, sets, resT, D.flat, D.flat0, D.simple, Nat.reduceBNe, Nat.reduceLT, reduceIte, Nat.reduceEqDiff, Nat.reduceAdd, Nat.reduceMul, Nat.reduceSub, Nat.reduceLeDiff, Int.reduceToNat, Int.reduceLT, Int.reduceLE, Int.reduceEq, Int.reduceNeg, Int.reduceSub, Int.reduceAdd, Int.reduceMul, stG_own] at c1 c2 c3 ⊢
  refine callF_of c1 ?_
  (refine ev ?_; try with_reducible exact trivial)
  refine callF_of c2 ?_
  (refine ev ?_; try with_reducible exact trivial)
  refine callF_of c3 ?_
  (refine ev ?_; try with_reducible exact trivial)
  refine callF_of c4 ?_
  (refine ev ?_; try with_reducible exact trivial)
end Go.Proofs

/-
  STEREONET: Within. Own work.
-/
namespace Go.Proofs
open Go Go.Pi Go.RowKit Go.Ar Go.Ne

/-- the places below k with a property -/
def idx (q : Nat → Bool) : Nat → List Int
  | 0 => []
  | k + 1 => if q k then idx q k ++ [(k : Int)] else idx q k
theorem idx_len (q : Nat → Bool) : ∀ k, (idx q k).length ≤ k
  | 0 => Nat.le_refl _
  | k + 1 => by
    have := idx_len q k
    simp only [idx]; split <;> simp <;> omega
/-- is the k-th pole in the cone? -/
def inW (a : V3) (c : Rat) (l : List V3) (k : Nat) : Bool := match l[k]? with
  | some p => decide (c * c * dot3 a a * dot3 p p ≤ dot3 a p * dot3 a p)
  | none => false
noncomputable def conE (a : S3) (c : List UInt8) (l : List S3) : Int :=
  if numE [a] ≠ 0 then 2 else if chk (okR c) ≠ 0 then 2 else if numE l ≠ 0 then 2 else if 400 < l.length then 4 else if zerE (a :: l) ≠ 0 then 17 else if val c < 0 ∨ 1 < val c then 3 else 0
noncomputable def withR (a : S3) (c : List UInt8) (l : List S3) : D :=
  if conE a c l = 0 then .tup [.sl (idx (inW (val3 a) (val c) (l.map val3)) l.length).length (ints .i64 (idx (inW (val3 a) (val c) (l.map val3)) l.length)), .int .i64 0] else .tup [.sl 0 [], .int .i64 (conE a c l)]
theorem withR_al (a : S3) (c : List UInt8) (l : List S3) : aliasOf (withR a c l) = none := by unfold withR; split <;> rfl
theorem chk_2 {p : Prop} : chk p ≠ 0 → chk p = 2 := fun h => chk_f (fun hp => h (chk_t hp))
theorem zer_17 {l : List S3} (h : zerE l ≠ 0) : zerE l = 17 := by
  unfold zerE at *
  cases h2 : l.any zS
  · rw [h2] at h; exact absurd rfl h
  · rfl
theorem rt_p1' : rt 1 = [49] := by kernel_rfl
theorem rd_01' : rd (1 : Rat) ≤ 1 := by rw [show (1 : Rat) = ((1 : Int) : Rat) from rfl]; exact rd_int (by decide) (by decide)
set_option maxRecDepth 100000 in
set_option maxHeartbeats 8000000 in
theorem Tryz.swithin (a : S3) (c : List UInt8) (l : List S3) (ha : szS 200 a) (hc : c.length ≤ 200) (hl : l.length ≤ 900) (hz : ∀ v ∈ l, szS 200 v) :
    Con Tryz.prog Tryz.L 20 [.agg (svD a), .str c, lS l] (withR a c l) := by
  have hs1 : ∀ v : S3, szS 200 v → szS 1000000 v := fun v h => by obtain ⟨x, y, z⟩ := h; exact ⟨by omega, by omega, by omega⟩
  have n1 := Tryz.snumbers [a] (by simp) (fun x hx => by obtain rfl := List.mem_singleton.1 hx; exact hs1 _ ha)
  have n2 := Tryz.rcheck c (by omega)
  have n3 := Tryz.snumbers l (by omega) (fun x hx => hs1 _ (hz x hx))
  have n4 := Tryz.szeros (a :: l) (by simp; omega)
  refine rule20 Tryz.hL (withR_al _ _ _) rfl rfl ?_
  simp only [svD, pc20, rs20, oU, oC, evX, evY, evZ, forall_const, implies_true, initE, stepF, D.clean, mvF, moF, tkF, shF, ariF, ciF, catF, scF, ebF, eqF, eqOk, eqPr, enF, notF, ngF, cvF, csF, csbF, lenF, lenSF, ixF, iaF, PX.slot, iaAF, faF, ldF, D.mem, stF, bxF, mkSF, boundF, fldF, ixAF, mmF2, D.plain, D.isPure, optAll, D.dull, callVF, splice, D.cells, D.one, sets, resT, D.flat, D.flat0, D.simple, Nat.reduceBNe, Nat.reduceLT, reduceIte, Nat.reduceEqDiff, Nat.reduceAdd, Nat.reduceMul, Nat.reduceSub, Nat.reduceLeDiff, Int.reduceToNat, Int.reduceLT, Int.reduceLE, Int.reduceEq, Int.reduceNeg, Int.reduceSub, Int.reduceAdd, Int.reduceMul, stG_own]
  refine callF_of n1 ?_
  (refine ev ?_; try with_reducible exact trivial)
  unfold withR
  refine ⟨fun e1 => ?_, fun e1 => ?_⟩
  · have e : conE a c l = 2 := by unfold conE; rw [if_pos e1]
    rw [e, if_neg (by decide), show numE [a] = 2 from chk_2 e1]; rfl
  refine callF_of n2 ?_
  (refine ev ?_; try with_reducible exact trivial)
  refine ⟨fun e2 => ?_, fun e2 => ?_⟩
  · have e : conE a c l = 2 := by unfold conE; rw [if_neg e1, if_pos e2]
    rw [e, if_neg (by decide), show chk (okR c) = 2 from chk_2 e2]; rfl
  refine callF_of n3 ?_
  (refine ev ?_; try with_reducible exact trivial)
  refine ⟨fun e3 => ?_, fun e3 => ?_⟩
  · have e : conE a c l = 2 := by unfold conE; rw [if_neg e1, if_neg e2, if_pos e3]
    rw [e, if_neg (by decide), show numE l = 2 from chk_2 e3]; rfl
  refine ⟨fun e4 => ?_, fun e4 => ?_⟩
  · have e : conE a c l = 4 := by unfold conE; rw [if_neg e1, if_neg e2, if_neg e3, if_pos (by omega)]
    rw [e, if_neg (by decide)]; rfl
  have k1 := num_0.1 (Classical.not_not.1 e1) a (by simp)
  have k2 := chk_0.1 (Classical.not_not.1 e2)
  have k3 := num_0.1 (Classical.not_not.1 e3)
  obtain ⟨q, hq⟩ : ∃ q, q = val c := ⟨_, rfl⟩
  obtain ⟨A, hA⟩ : ∃ A, A = val3 a := ⟨_, rfl⟩
  have ec : c = rt q := by rw [hq]; exact val_rt k2
  have ea : a = tx3 A := by rw [hA]; exact val3_tx k1
  have za : Sz3 200 A := by rw [hA]; exact val3_sz k1 ha
  have rq : rd q ≤ 200 := by have := rd_rtlen q; rw [← ec] at this; omega
  have e4' : lS (a :: l) = .sl (1 + l.length) (.str a.1 :: .str a.2.1 :: .str a.2.2 :: svs l) := by
    show D.sl (l.length + 1) _ = _
    rw [Nat.add_comm]; rfl
  rw [e4'] at n4
  have hlen := svs_len l
  refine ⟨by omega, by omega, by omega, ?_⟩
  refine callF_of n4 ?_
  (refine ev ?_; try with_reducible exact trivial)
  refine ⟨fun e5 => ?_, fun e5 => ?_⟩
  · have e : conE a c l = 17 := by unfold conE; rw [if_neg e1, if_neg e2, if_neg e3, if_neg (by omega), if_pos e5]
    rw [e, if_neg (by decide), zer_17 e5]; rfl
  have hcE : conE a c l = if q < 0 ∨ 1 < q then 3 else 0 := by unfold conE; rw [if_neg e1, if_neg e2, if_neg e3, if_neg (by omega), if_neg e5, ← hq]
  rw [hcE, ← hA, ← hq]
  clear hcE n1 n2 n3 n4 e1 e2 e3 e5 k1 k2 ha hc hA hq e4'
  subst ec
  subst ea
  have hr1 : ∀ v : V3, tx3 v = (rt v.1, rt v.2.1, rt v.2.2) := fun _ => rfl
  have cS := Tryz.rsign q (by omega)
  have cC := Tryz.rcompare q 1 (by omega) (by have := rd_01'; omega)
  rw [rt_p1'] at cC
  have p1 := sgn_nonneg q
  have cpl := cmpQ_le q 1
  have m1 := Tryz.rmul q q (by omega) (by omega)
  have d1 := Tryz.sdot A A (za.more (by decide)) (za.more (by decide))
  have z1 := rd_mul q q
  have z2 := sz_dot za za
  have m2 := Tryz.rmul (q * q) (dot3 A A) (by omega) (by omega)
  have z3 := rd_mul (q * q) (dot3 A A)
  have hin : ∀ k, inW A q (l.map val3) k = match l[k]? with | some x => decide (q * q * dot3 A A * dot3 (val3 x) (val3 x) ≤ dot3 A (val3 x) * dot3 A (val3 x)) | none => false := fun k => by
    unfold inW; rw [List.getElem?_map]; cases l[k]? <;> rfl
  have hid := idx_len (inW A q (l.map val3))
  have hsu : ∀ k, idx (inW A q (l.map val3)) (k + 1) = if inW A q (l.map val3) k then idx (inW A q (l.map val3)) k ++ [(k : Int)] else idx (inW A q (l.map val3)) k := fun k => rfl
  have hze : idx (inW A q (l.map val3)) 0 = [] := rfl
  generalize inW A q (l.map val3) = W at *
  simp only [hr1, svD, evX, evY, evZ, forall_const, implies_true, initE, stepF, D.clean, mvF, moF, tkF, shF, ariF, ciF, catF, scF, ebF, eqF, eqOk, eqPr, enF, notF, ngF, cvF, csF, csbF, lenF, lenSF, ixF, iaF, PX.slot, iaAF, faF, ldF, D.mem, stF, bxF, mkSF, boundF, fldF, ixAF, mmF2, D.plain, D.isPure, optAll, D.dull, callVF, splice, D.cells, D.one, sets, resT, D.flat, D.flat0, D.simple, Nat.reduceBNe, Nat.reduceLT, reduceIte, Nat.reduceEqDiff, Nat.reduceAdd, Nat.reduceMul, Nat.reduceSub, Nat.reduceLeDiff, Int.reduceToNat, Int.reduceLT, Int.reduceLE, Int.reduceEq, Int.reduceNeg, Int.reduceSub, Int.reduceAdd, Int.reduceMul, stG_own] at d1 ⊢
  refine callF_of cS ?_
  (refine ev ?_; try with_reducible exact trivial)
  have hneg : q.num.sign < 0 → q < 0 := fun h => Rat.not_le.1 (fun h2 => by have := p1.2 h2; omega)
  refine ⟨fun s1 => ?_, fun s1 => ?_⟩
  · have hq0 : 0 ≤ q := p1.1 (by omega)
    refine callF_of cC ?_
    (refine ev ?_; try with_reducible exact trivial)
    refine ⟨fun s2 => ?_, fun s2 => ?_⟩
    · have : ¬q ≤ 1 := fun h => by have := cpl.2 h; omega
      rw [if_pos (show q < 0 ∨ 1 < q from .inr (Rat.not_le.1 this)), if_neg (by decide)]
      rfl
    · have hq1 : q ≤ 1 := cpl.1 (by omega)
      rw [if_neg (show ¬(q < 0 ∨ 1 < q) from fun h => h.elim (Rat.not_lt.2 hq0) (Rat.not_lt.2 hq1)), if_pos rfl]
      refine callF_of m1 ?_
      (refine ev ?_; try with_reducible exact trivial)
      refine callF_of d1 ?_
      (refine ev ?_; try with_reducible exact trivial)
      refine callF_of m2 ?_
      (refine ev ?_; try with_reducible exact trivial)
      refine loopF_of (fun E => ∃ j : Nat, j ≤ l.length ∧ E = [(3, .box true [.str (rt A.1), .str (rt A.2.1), .str (rt A.2.2)]), (12, .str (rt (q * q * dot3 A A))), (13, .own true 3 (idx W j).length (ints .i64 (idx W j))), (59, lS l), (60, .int .i64 l.length), (61, .int .i64 j)])
        (fun E => match lk E 61 with | .int _ i => l.length - i.toNat | _ => 0) ⟨0, by omega, by rw [hze]; rfl⟩ ?_
      rintro _ ⟨j, hj, rfl⟩
      simp only [evX, evY, evZ, forall_const, implies_true, initE, stepF, D.clean, mvF, moF, tkF, shF, ariF, ciF, catF, scF, ebF, eqF, eqOk, eqPr, enF, notF, ngF, cvF, csF, csbF, lenF, lenSF, ixF, iaF, PX.slot, iaAF, faF, ldF, D.mem, stF, bxF, mkSF, boundF, fldF, ixAF, mmF2, D.plain, D.isPure, optAll, D.dull, callVF, splice, D.cells, D.one, sets, resT, D.flat, D.flat0, D.simple, Nat.reduceBNe, Nat.reduceLT, reduceIte, Nat.reduceEqDiff, Nat.reduceAdd, Nat.reduceMul, Nat.reduceSub, Nat.reduceLeDiff, Int.reduceToNat, Int.reduceLT, Int.reduceLE, Int.reduceEq, Int.reduceNeg, Int.reduceSub, Int.reduceAdd, Int.reduceMul, stG_own, ldC_svs]
      refine ⟨fun h1 => ?_, fun h1 => ?_⟩
      · have hx : l[j]? = some (l[j]'(by omega)) := List.getElem?_eq_getElem (by omega)
        generalize l[j]'(by omega) = x at hx
        refine ⟨⟨by omega, by omega, by omega⟩, x, hx, ?_⟩
        have hm := List.mem_of_getElem? hx
        have hok := k3 x hm
        have hxe := val3_tx hok
        have hxz := val3_sz hok (hz x hm)
        have hW := hin j
        rw [hx] at hW
        simp only at hW
        have hs := hsu j
        have hlj := hid j
        generalize val3 x = P at *
        subst hxe
        have d2 := Tryz.sdot A P (za.more (by decide)) (hxz.more (by decide))
        have d3 := Tryz.sdot P P (hxz.more (by decide)) (hxz.more (by decide))
        have z4 := sz_dot za hxz
        have z5 := sz_dot hxz hxz
        have m3 := Tryz.rmul (dot3 A P) (dot3 A P) (by omega) (by omega)
        have z6 := rd_mul (dot3 A P) (dot3 A P)
        have m4 := Tryz.rmul (q * q * dot3 A A) (dot3 P P) (by omega) (by omega)
        have z7 := rd_mul (q * q * dot3 A A) (dot3 P P)
        have cC2 := Tryz.rcompare (dot3 A P * dot3 A P) (q * q * dot3 A A * dot3 P P) (by omega) (by omega)
        have cge := cmpQ_ge (dot3 A P * dot3 A P) (q * q * dot3 A A * dot3 P P)
        simp only [hr1, svD, evX, evY, evZ, forall_const, implies_true, initE, stepF, D.clean, mvF, moF, tkF, shF, ariF, ciF, catF, scF, ebF, eqF, eqOk, eqPr, enF, notF, ngF, cvF, csF, csbF, lenF, lenSF, ixF, iaF, PX.slot, iaAF, faF, ldF, D.mem, stF, bxF, mkSF, boundF, fldF, ixAF, mmF2, D.plain, D.isPure, optAll, D.dull, callVF, splice, D.cells, D.one, sets, resT, D.flat, D.flat0, D.simple, Nat.reduceBNe, Nat.reduceLT, reduceIte, Nat.reduceEqDiff, Nat.reduceAdd, Nat.reduceMul, Nat.reduceSub, Nat.reduceLeDiff, Int.reduceToNat, Int.reduceLT, Int.reduceLE, Int.reduceEq, Int.reduceNeg, Int.reduceSub, Int.reduceAdd, Int.reduceMul, stG_own] at d2 d3 ⊢
        refine callF_of d2 ?_
        (refine ev ?_; try with_reducible exact trivial)
        refine callF_of m3 ?_
        (refine ev ?_; try with_reducible exact trivial)
        refine callF_of d3 ?_
        (refine ev ?_; try with_reducible exact trivial)
        refine callF_of m4 ?_
        (refine ev ?_; try with_reducible exact trivial)
        refine callF_of cC2 ?_
        (refine ev ?_; try with_reducible exact trivial)
        refine ⟨fun h2 => ?_, fun h2 => ?_⟩
        · have hw : W j = true := by rw [hW]; exact decide_eq_true (cge.1 h2)
          rw [if_pos hw] at hs
          exact ⟨by omega, by omega, ⟨by omega, by omega⟩, ⟨j + 1, by omega, by rw [hs, List.length_append]; rfl, by simp⟩, by omega⟩
        · have hw : ¬W j = true := by rw [hW, decide_eq_true_eq]; exact fun h => h2 (cge.2 h)
          rw [if_neg hw] at hs
          exact ⟨⟨by omega, by omega⟩, ⟨j + 1, by omega, by rw [hs], by simp⟩, by omega⟩
      · obtain rfl : j = l.length := by omega
        rfl
  · rw [if_pos (show q < 0 ∨ 1 < q from .inl (hneg s1)), if_neg (by decide)]
    rfl
end Go.Proofs

/-
  STEREONET: the law on many poles. Own work.
-/
namespace Go.Ne
theorem cntP_const (K : Nat) (c r : Int) (px : Nat → Int × Int) (h : ∀ i, i < K → px i = (0, 0)) : cntP px K c r = if c = 0 ∧ r = 0 then (K : Int) else 0 := by
  induction K generalizing c r with
  | zero => simp [cntP]
  | succ K ih =>
    have e := h K (Nat.lt_succ_self K)
    rw [cntP_succ, e]
    simp only
    rw [ih 0 0 (fun i hi => h i (by omega)), ih c r (fun i hi => h i (by omega))]
    by_cases hc : c = 0 ∧ r = 0
    · rw [if_pos hc, if_pos ⟨rfl, rfl⟩, if_pos hc]; omega
    · rw [if_neg hc, if_neg hc, if_neg hc]
end Go.Ne
namespace Go.Proofs
open Go Go.Pi Go.RowKit Go.Ar Go.Ne

theorem idx_all {q : Nat → Bool} : ∀ {K : Nat}, (∀ k, k < K → q k = true) → (idx q K).length = K
  | 0, _ => rfl
  | K + 1, h => by
    rw [idx, if_pos (h K (Nat.lt_succ_self K)), List.length_append, idx_all (fun k hk => h k (by omega))]; rfl
theorem svs_rep (x : S3) : ∀ K, (List.replicate K (svD x)).flatten = svs (List.replicate K x)
  | 0 => rfl
  | K + 1 => by rw [List.replicate_succ, List.flatten_cons, svs_rep x K, List.replicate_succ]; rfl
theorem px_dn2 : pixV true 1 (0, 0, -1) = (0, 0) := by decide +kernel
theorem v3_dn : val3 dn = (0, 0, -1) := by simp only [val3, dn, vl_0, vl_m1]
theorem dn_all {K : Nat} : ∀ v ∈ List.replicate K dn, v = dn := fun v hv => (List.mem_replicate.1 hv).2
theorem many_with {K : Nat} (hK : 0 < K) : (if 400 < K then withR dn [49] (List.replicate K dn) = .tup [.sl 0 [], .int .i64 4] else ∃ l : List Int, l.length = K ∧ withR dn [49] (List.replicate K dn) = .tup [.sl l.length (ints .i64 l), .int .i64 0]) := by
  have n1 : numE [dn] = 0 := num_0.2 (fun v hv => by rw [List.mem_singleton.1 hv]; exact ⟨ok_0, ok_0, ok_m1⟩)
  have n2 : chk (okR [49]) = 0 := chk_0.2 ok_1
  have n3 : numE (List.replicate K dn) = 0 := num_0.2 (fun v hv => by rw [dn_all v hv]; exact ⟨ok_0, ok_0, ok_m1⟩)
  have n4 : zerE (dn :: List.replicate K dn) = 0 := zer_0.2 (by
    rw [List.any_eq_false]
    intro v hv
    have : v = dn := by
      rcases List.mem_cons.1 hv with h | h
      · exact h
      · exact dn_all v h
    rw [this]; decide)
  have n5 : ¬(val [49] < 0 ∨ 1 < val [49]) := by rw [vl_1]; decide
  split
  · rename_i h
    have e : conE dn [49] (List.replicate K dn) = 4 := by unfold conE; rw [if_neg (by simp [n1]), if_neg (by simp [n2]), if_neg (by simp [n3]), if_pos (by simpa using h)]
    unfold withR
    rw [e, if_neg (by decide)]
  · rename_i h
    have e : conE dn [49] (List.replicate K dn) = 0 := by unfold conE; rw [if_neg (by simp [n1]), if_neg (by simp [n2]), if_neg (by simp [n3]), if_neg (by simpa using h), if_neg (by simp [n4]), if_neg n5]
    refine ⟨idx (inW (val3 dn) (val [49]) ((List.replicate K dn).map val3)) (List.replicate K dn).length, ?_, ?_⟩
    · rw [List.length_replicate]
      refine idx_all fun k hk => ?_
      unfold inW
      rw [List.getElem?_map, List.getElem?_replicate, if_pos hk, vl_1]
      simp only [Option.map_some, v3_dn]
      decide +kernel
    · unfold withR
      rw [if_pos e]
theorem many_pic {K : Nat} (hK : 9 < K) : (if 400 < K then picR 2 1 (List.replicate K dn) = .tup [.sl 0 [], .int .i64 4] else ∃ x y : List UInt8, picR 2 1 (List.replicate K dn) = .tup [.sl 3 [.str x, .str [46, 42, 46], .str y], .int .i64 0]) := by
  have n3 : numE (List.replicate K dn) = 0 := num_0.2 (fun v hv => by rw [dn_all v hv]; exact ⟨ok_0, ok_0, ok_m1⟩)
  have n4 : zerE (List.replicate K dn) = 0 := zer_0.2 (by
    rw [List.any_eq_false]
    intro v hv
    rw [dn_all v hv]; decide)
  have n6 : (if numE (List.replicate K dn) ≠ 0 then numE (List.replicate K dn) else netE 2 1) = 0 := by rw [n3]; decide
  split
  · rename_i h
    have e : picE 2 1 (List.replicate K dn) = 4 := by unfold picE; rw [n6, if_neg (by decide), if_pos (.inr (by simpa using h))]
    unfold picR
    rw [e, if_neg (by decide)]
  · rename_i h
    have e : picE 2 1 (List.replicate K dn) = 0 := by unfold picE; rw [n6, if_neg (by decide), if_neg (by simp; omega), n4]
    unfold picR
    rw [if_pos e]
    have hf : cntP (pxs 2 (1 : Int).toNat (List.replicate K dn)) (List.replicate K dn).length = fun c r => if c = 0 ∧ r = 0 then (K : Int) else 0 := by
      funext c r
      rw [List.length_replicate]
      refine cntP_const K c r _ fun i hi => ?_
      unfold pxs
      have : (List.replicate K dn).getD i ([], [], []) = dn := by rw [List.getD_eq_getElem?_getD, List.getElem?_replicate, if_pos hi]; rfl
      rw [this, v3_dn]
      exact px_dn2
    rw [hf]
    have h9 : (9 : Int) < K := by omega
    refine ⟨rowB (fun c r => if c = 0 ∧ r = 0 then (K : Int) else 0) 1 1 3, rowB (fun c r => if c = 0 ∧ r = 0 then (K : Int) else 0) 1 (-1) 3, ?_⟩
    have hm : rowB (fun c r => if c = 0 ∧ r = 0 then (K : Int) else 0) 1 0 3 = [46, 42, 46] := by
      have e1 : mrkB (K : Int) 0 0 1 = 42 := by unfold mrkB mrk; rw [if_pos h9]; rfl
      have b1 : mrkB (if (-1 : Int) = 0 ∧ (0 : Int) = 0 then (K : Int) else 0) (-1) 0 1 = 46 := by rw [if_neg (by decide)]; rfl
      have b2 : mrkB (if (0 : Int) = 0 ∧ (0 : Int) = 0 then (K : Int) else 0) 0 0 1 = 42 := by rw [if_pos ⟨rfl, rfl⟩]; exact e1
      have b3 : mrkB (if (1 : Int) = 0 ∧ (0 : Int) = 0 then (K : Int) else 0) 1 0 1 = 46 := by rw [if_neg (by decide)]; rfl
      have e2 : rowB (fun c r => if c = 0 ∧ r = 0 then (K : Int) else 0) 1 0 3 = [mrkB (if (-1 : Int) = 0 ∧ (0 : Int) = 0 then (K : Int) else 0) (-1) 0 1, mrkB (if (0 : Int) = 0 ∧ (0 : Int) = 0 then (K : Int) else 0) 0 0 1, mrkB (if (1 : Int) = 0 ∧ (0 : Int) = 0 then (K : Int) else 0) 1 0 1] := rfl
      rw [e2, b1, b2, b3]
    show D.tup [.sl 3 [.str (rowB _ 1 (((1 : Nat) : Int) - ((0 : Nat) : Int)) 3), .str (rowB _ 1 (((1 : Nat) : Int) - ((1 : Nat) : Int)) 3), .str (rowB _ 1 (((1 : Nat) : Int) - ((2 : Nat) : Int)) 3)], .int .i64 0] = _
    rw [show (((1 : Nat) : Int) - ((1 : Nat) : Int)) = 0 from rfl, hm]
    rfl
set_option maxRecDepth 100000 in
set_option maxHeartbeats 8000000 in
theorem Tryz.stereonetMany (n : Int) (h0 : 0 ≤ n) (h1 : n ≤ 255) : Con Tryz.prog Tryz.L 9 [.int .u8 n] (.bool true) := by
  have hk := Tryz.known18
  obtain ⟨m, hm, hm4⟩ : ∃ m : Nat, n.tmod 4 = m ∧ m < 4 := ⟨(n.tmod 4).toNat, by rw [Int.tmod_eq_emod_of_nonneg h0]; omega, by rw [Int.tmod_eq_emod_of_nonneg h0]; omega⟩
  have hK : ∃ K : Nat, K = 399 + m := ⟨_, rfl⟩
  obtain ⟨K, hKe⟩ := hK
  have cR := Tryz.vrepeat 1 K (svD dn) rfl (by omega) (by omega)
  rw [Nat.mul_one, svs_rep, show (K : Int) = 399 + (m : Int) by omega] at cR
  have cW := Tryz.swithin dn [49] (List.replicate K dn) ⟨by decide, by decide, by decide⟩ (by decide) (by simp; omega) (fun v hv => by rw [dn_all v hv]; exact ⟨by decide, by decide, by decide⟩)
  have cP := Tryz.spicture 2 1 (List.replicate K dn) (by simp; omega) (fun v hv => by rw [dn_all v hv]; exact ⟨by decide, by decide, by decide⟩)
  have eW := many_with (K := K) (by omega)
  have eP := many_pic (K := K) (by omega)
  have hld := fun t N E => ldC_svs0 (l := List.replicate K dn) (t := t) (N := N) (E := E)
  have h00 : (List.replicate K dn)[0]? = some dn := by rw [List.getElem?_replicate, if_pos (by omega)]
  have hlen := svs_len (List.replicate K dn)
  have hrl : (List.replicate K dn).length = K := by simp
  refine rule9 Tryz.hL rfl rfl rfl ?_
  generalize List.replicate K dn = l at *
  simp only [dn, netD, svD, pc9, rs9, oU, oC, evX, evY, evZ, forall_const, implies_true, initE, stepF, D.clean, mvF, moF, tkF, shF, ariF, ciF, catF, scF, ebF, eqF, eqOk, eqPr, enF, notF, ngF, cvF, csF, csbF, lenF, lenSF, ixF, iaF, PX.slot, iaAF, faF, ldF, D.mem, stF, bxF, mkSF, boundF, fldF, ixAF, mmF2, D.plain, D.isPure, optAll, D.dull, callVF, splice, D.cells, D.one, sets, resT, D.flat, D.flat0, D.simple, Nat.reduceBNe, Nat.reduceLT, reduceIte, Nat.reduceEqDiff, Nat.reduceAdd, Nat.reduceMul, Nat.reduceSub, Nat.reduceLeDiff, Int.reduceToNat, Int.reduceLT, Int.reduceLE, Int.reduceEq, Int.reduceNeg, Int.reduceSub, Int.reduceAdd, Int.reduceMul, stG_own] at cR cW ⊢
  refine callF_of hk ?_
  simp only [hm, evX, evY, evZ, forall_const, implies_true, initE, stepF, D.clean, mvF, moF, tkF, shF, ariF, ciF, catF, scF, ebF, eqF, eqOk, eqPr, enF, notF, ngF, cvF, csF, csbF, lenF, lenSF, ixF, iaF, PX.slot, iaAF, faF, ldF, D.mem, stF, bxF, mkSF, boundF, fldF, ixAF, mmF2, D.plain, D.isPure, optAll, D.dull, callVF, splice, D.cells, D.one, sets, resT, D.flat, D.flat0, D.simple, Nat.reduceBNe, Nat.reduceLT, reduceIte, Nat.reduceEqDiff, Nat.reduceAdd, Nat.reduceMul, Nat.reduceSub, Nat.reduceLeDiff, Int.reduceToNat, Int.reduceLT, Int.reduceLE, Int.reduceEq, Int.reduceNeg, Int.reduceSub, Int.reduceAdd, Int.reduceMul, stG_own]
  refine ⟨⟨by omega, by omega⟩, ⟨by omega, by omega⟩, ?_⟩
  refine callF_of cR ?_
  (refine ev ?_; try with_reducible exact trivial)
  refine ⟨⟨by omega, by omega⟩, ?_⟩
  rw [hld]
  refine ⟨dn, h00, ?_⟩
  rw [lS, hrl] at cW cP
  simp only [dn, svD, netD, evX, evY, evZ, forall_const, implies_true, initE, stepF, D.clean, mvF, moF, tkF, shF, ariF, ciF, catF, scF, ebF, eqF, eqOk, eqPr, enF, notF, ngF, cvF, csF, csbF, lenF, lenSF, ixF, iaF, PX.slot, iaAF, faF, ldF, D.mem, stF, bxF, mkSF, boundF, fldF, ixAF, mmF2, D.plain, D.isPure, optAll, D.dull, callVF, splice, D.cells, D.one, sets, resT, D.flat, D.flat0, D.simple, Nat.reduceBNe, Nat.reduceLT, reduceIte, Nat.reduceEqDiff, Nat.reduceAdd, Nat.reduceMul, Nat.reduceSub, Nat.reduceLeDiff, Int.reduceToNat, Int.reduceLT, Int.reduceLE, Int.reduceEq, Int.reduceNeg, Int.reduceSub, Int.reduceAdd, Int.reduceMul, stG_own] at cW cP eW eP ⊢
  refine callF_of cW ?_
  by_cases h4 : 400 < K
  · rw [if_pos h4] at eW eP
    rw [eW]
    rw [eP] at cP
    (refine ev ?_; try with_reducible exact trivial)
    refine callF_of cP ?_
    (refine ev ?_; try with_reducible exact trivial)
    exact ⟨fun _ => ⟨⟨by omega, by omega⟩, dB_iff.2 rfl⟩, fun h => absurd (by omega) h⟩
  · rw [if_neg h4] at eW eP
    obtain ⟨il, hil, eW⟩ := eW
    obtain ⟨x, y, eP⟩ := eP
    rw [eW]
    rw [eP] at cP
    (refine ev ?_; try with_reducible exact trivial)
    refine callF_of cP ?_
    (refine ev ?_; try with_reducible exact trivial)
    exact ⟨fun h => by omega, fun _ => ⟨fun _ => ⟨fun _ => by omega, fun h => absurd rfl h⟩, fun h => absurd (by omega) h⟩⟩
end Go.Proofs
