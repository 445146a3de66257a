/-
  STEREONET: the chapter's examples: known() is true. Own work.
-/
import Derived.Test.YtidmnjnhccoblaaGreatDoorPj
import Derived.Test.YtidmnjnhccoblaaGreatDoorSh
import Derived.Test.YtidmnjnhccoblaaGreatDoorEh
import Derived.Test.YtidmnjnhccoblaaGreatDoorSg
set_option linter.unusedVariables false
set_option linter.unusedSimpArgs false
namespace Go.Proofs
open Go Go.Pi Go.RowKit Go.Ar Go.Ne

theorem val_of (q : Rat) (h : rd q ≤ 200) : val (rt q) = q := by
  have := val_rt (s := rt q) ⟨q, rfl, h⟩
  exact (rt_inj this).symm
theorem px_one : pixV false 100 (1, 0, -1) = (41, 0) := by decide +kernel
theorem px_two : pixV true 100 (1, 0, 1) = (-54, 0) := by decide +kernel
theorem px_down : pixV false 1 (0, 0, -1) = (0, 0) := by decide +kernel
theorem rt_p0 : rt 0 = [48] := zero_txt
theorem rt_p1 : rt 1 = [49] := by kernel_rfl
theorem rd_01 : rd (0 : Rat) ≤ 200 ∧ rd (1 : Rat) ≤ 200 ∧ rd (-1 : Rat) ≤ 200 := ⟨by rw [show (0 : Rat) = ((0 : Int) : Rat) from rfl]; exact Nat.le_trans (rd_int (k := 1) (by decide) (by decide)) (by decide), by rw [show (1 : Rat) = ((1 : Int) : Rat) from rfl]; exact Nat.le_trans (rd_int (k := 1) (by decide) (by decide)) (by decide), Nat.le_trans rd_m1 (by decide)⟩
theorem vl_0 : val [48] = 0 := by rw [← rt_p0]; exact val_of 0 rd_01.1
theorem vl_1 : val [49] = 1 := by rw [← rt_p1]; exact val_of 1 rd_01.2.1
theorem vl_m1 : val [45, 49] = -1 := by rw [← rt_m1]; exact val_of (-1) rd_01.2.2
theorem ok_0 : okR [48] := ⟨0, rt_p0.symm, rd_01.1⟩
theorem ok_1 : okR [49] := ⟨1, rt_p1.symm, rd_01.2.1⟩
theorem ok_m1 : okR [45, 49] := ⟨-1, rt_m1.symm, rd_01.2.2⟩
theorem Tryz.kpix1 : pixR 1 100 ([49], [48], [45, 49]) = .tup [.agg [.int .i64 41, .int .i64 0], .int .i64 0] := by
  unfold pixR
  rw [if_pos (errN_0.2 ⟨fun v hv => by rw [List.mem_singleton.1 hv]; exact ⟨ok_1, ok_0, ok_m1⟩, by decide, by decide⟩)]
  have e : val3 ([49], [48], [45, 49]) = (1, 0, -1) := by simp only [val3, vl_0, vl_1, vl_m1]
  have ea : areaB 1 = false := rfl
  rw [e, ea, show (100 : Int).toNat = 100 from rfl, px_one]
  rfl
theorem Tryz.kpix2 : pixR 2 100 ([49], [48], [49]) = .tup [.agg [.int .i64 (-54), .int .i64 0], .int .i64 0] := by
  unfold pixR
  rw [if_pos (errN_0.2 ⟨fun v hv => by rw [List.mem_singleton.1 hv]; exact ⟨ok_1, ok_0, ok_1⟩, by decide, by decide⟩)]
  have e : val3 ([49], [48], [49]) = (1, 0, 1) := by simp only [val3, vl_0, vl_1]
  have ea : areaB 2 = true := rfl
  rw [e, ea, show (100 : Int).toNat = 100 from rfl, px_two]
  rfl
def dn : S3 := ([48], [48], [45, 49])
theorem Tryz.kpic : picR 1 1 [dn, dn] = .tup [.sl 3 [.str [32, 46, 32], .str [46, 50, 46], .str [32, 46, 32]], .int .i64 0] := by
  have hz : zerE [dn, dn] = 0 := by decide
  have hn : numE [dn, dn] = 0 := num_0.2 (fun v hv => by
    have : v = dn := by simpa using hv
    rw [this]; exact ⟨ok_0, ok_0, ok_m1⟩)
  have he : picE 1 1 [dn, dn] = 0 := by unfold picE; rw [hn, hz]; decide
  unfold picR
  rw [if_pos he]
  have hp : ∀ i, i < 2 → pxs 1 1 [dn, dn] i = (0, 0) := fun i hi => by
    have e : val3 dn = (0, 0, -1) := by simp only [val3, dn, vl_0, vl_m1]
    have : [dn, dn].getD i ([], [], []) = dn := by
      match i, hi with
      | 0, _ => rfl
      | 1, _ => rfl
    unfold pxs
    rw [this, e]
    exact px_down
  have hc : cntP (pxs 1 (1 : Int).toNat [dn, dn]) [dn, dn].length = fun c r => if c = 0 ∧ r = 0 then 2 else 0 := by
    funext c r
    show cntP (pxs 1 1 [dn, dn]) 2 c r = _
    simp only [cntP, hp 0 (by decide), hp 1 (by decide)]
    split <;> simp_all
  rw [hc]
  rfl
set_option maxHeartbeats 4000000 in
theorem Tryz.eqInts (a b : List Int) (ha : a.length ≤ 1000) : Con Tryz.prog Tryz.L 26 [.sl a.length (ints .i64 a), .sl b.length (ints .i64 b)] (.bool (dB (a = b))) := by
  refine rule26 Tryz.hL rfl rfl rfl ?_
  (simp only [pc26, rs26, oU, oC]; refine ev ?_; try with_reducible exact trivial)
  refine ⟨fun h => ?_, fun h => ?_⟩
  · rw [dB_not.2 (fun e => h (by rw [e]))]
  · have hlen : a.length = b.length := by omega
    refine loopF_of (fun E => ∃ k : Nat, k ≤ a.length ∧ (∀ j, j < k → a.getD j 0 = b.getD j 0) ∧ E = [(0, .sl a.length (ints .i64 a)), (1, .sl b.length (ints .i64 b)), (12, .int .i64 a.length), (13, .int .i64 k)])
      (fun E => match lk E 13 with | .int _ i => a.length - i.toNat | _ => 0) ⟨0, by omega, fun j hj => by omega, rfl⟩ ?_
    rintro _ ⟨k, hk, hno, rfl⟩
    simp only [evX, evY, evZ, forall_const, implies_true, initE, stepF, D.clean, mvF, moF, tkF, shF, ariF, ciF, catF, scF, ebF, eqF, eqOk, eqPr, enF, notF, ngF, cvF, csF, csbF, lenF, lenSF, ixF, iaF, PX.slot, iaAF, faF, ldF, D.mem, stF, bxF, mkSF, boundF, fldF, ixAF, mmF2, D.plain, D.isPure, optAll, D.dull, callVF, splice, D.cells, D.one, sets, resT, D.flat, D.flat0, D.simple, Nat.reduceBNe, Nat.reduceLT, reduceIte, Nat.reduceEqDiff, Nat.reduceAdd, Nat.reduceMul, Nat.reduceSub, Nat.reduceLeDiff, Int.reduceToNat, Int.reduceLT, Int.reduceLE, Int.reduceEq, Int.reduceNeg, Int.reduceSub, Int.reduceAdd, Int.reduceMul, stG_own, Nat.mul_one]
    refine ⟨fun h1 => ?_, fun h1 => ?_⟩
    · refine ⟨⟨by omega, by omega, by omega⟩, by omega, ⟨by omega, by omega, by omega⟩, by omega, fun h2 => ?_, fun h2 => ⟨by omega, ⟨k + 1, by omega, fun j hj => ?_, rfl⟩, by omega⟩⟩
      · rw [dB_not.2 (fun e => h2 (by rw [e]))]
      · by_cases e : j = k
        · rw [e]; exact Classical.not_not.1 h2
        · exact hno j (by omega)
    · rw [dB_iff.2]
      refine List.ext_getElem hlen (fun i h3 h4 => ?_)
      have := hno i (by omega)
      rwa [List.getD_eq_getElem?_getD, List.getD_eq_getElem?_getD, List.getElem?_eq_getElem h3, List.getElem?_eq_getElem h4] at this
set_option maxHeartbeats 4000000 in
theorem Tryz.eqStr3 (x y z : List UInt8) : Con Tryz.prog Tryz.L 37 [.sl 3 [.str x, .str y, .str z], .sl 3 [.str x, .str y, .str z]] (.bool true) := by
  refine rule37 Tryz.hL rfl rfl rfl ?_
  (simp only [pc37, rs37, oU, oC]; refine ev ?_; try with_reducible exact trivial)
  refine loopF_of (fun E => ∃ k : Nat, k ≤ 3 ∧ E = [(0, .sl 3 [.str x, .str y, .str z]), (1, .sl 3 [.str x, .str y, .str z]), (12, .int .i64 3), (13, .int .i64 k)])
    (fun E => match lk E 13 with | .int _ i => 3 - i.toNat | _ => 0) ⟨0, by omega, rfl⟩ ?_
  rintro _ ⟨k, hk, rfl⟩
  obtain rfl | rfl | rfl | rfl : k = 0 ∨ k = 1 ∨ k = 2 ∨ k = 3 := by omega
  · (refine ev ?_; try with_reducible exact trivial)
    exact fun _ => ⟨⟨by decide, by decide⟩, ⟨by decide, by decide⟩, ⟨by decide, by decide⟩, ⟨1, by omega, rfl⟩, by decide⟩
  · (refine ev ?_; try with_reducible exact trivial)
    exact fun _ => ⟨⟨by decide, by decide⟩, ⟨by decide, by decide⟩, ⟨by decide, by decide⟩, ⟨2, by omega, rfl⟩, by decide⟩
  · (refine ev ?_; try with_reducible exact trivial)
    exact fun _ => ⟨⟨by decide, by decide⟩, ⟨by decide, by decide⟩, ⟨by decide, by decide⟩, ⟨3, by omega, rfl⟩, by decide⟩
  · (refine ev ?_; try with_reducible exact trivial)
    exact fun h => absurd h (by omega)
set_option maxRecDepth 100000 in
set_option maxHeartbeats 4000000 in
theorem Tryz.known18 : Con Tryz.prog Tryz.L 10 [] (.bool true) := by
  have c1 := Tryz.sPixel 1 100 ([49], [48], [45, 49]) ⟨by decide, by decide, by decide⟩
  have c2 := Tryz.sPixel 2 100 ([49], [48], [49]) ⟨by decide, by decide, by decide⟩
  have c3 := Tryz.spicture 1 1 [dn, dn] (by decide) (fun v hv => by
    have : v = dn := by simpa using hv
    rw [this]; exact ⟨by decide, by decide, by decide⟩)
  rw [Tryz.kpix1] at c1
  rw [Tryz.kpix2] at c2
  rw [Tryz.kpic] at c3
  have c4 := Tryz.eqStr3 [32, 46, 32] [46, 50, 46] [32, 46, 32]
  have e3 : svs [dn, dn] = [.str [48], .str [48], .str [45, 49], .str [48], .str [48], .str [45, 49]] := rfl
  rw [lS, e3] at c3
  refine rule10 Tryz.hL rfl rfl rfl ?_
  simp only [netD, svD, pc10, rs10, oU, oC, evX, evY, evZ, forall_const, implies_true, initE, stepF, D.clean, mvF, moF, tkF, shF, ariF, ciF, catF, scF, ebF, eqF, eqOk, eqPr, enF, notF, ngF, cvF, csF, csbF, lenF, lenSF, ixF, iaF, PX.slot, iaAF, faF, ldF, D.mem, stF, bxF, mkSF, boundF, fldF, ixAF, mmF2, D.plain, D.isPure, optAll, D.dull, callVF, splice, D.cells, D.one, sets, resT, D.flat, D.flat0, D.simple, Nat.reduceBNe, Nat.reduceLT, reduceIte, Nat.reduceEqDiff, Nat.reduceAdd, Nat.reduceMul, Nat.reduceSub, Nat.reduceLeDiff, Int.reduceToNat, Int.reduceLT, Int.reduceLE, Int.reduceEq, Int.reduceNeg, Int.reduceSub, Int.reduceAdd, Int.reduceMul, stG_own] at c1 c2 c3 ⊢
  refine callF_of c1 ?_
  (refine ev ?_; try with_reducible exact trivial)
  refine callF_of c2 ?_
  (refine ev ?_; try with_reducible exact trivial)
  refine callF_of c3 ?_
  (refine ev ?_; try with_reducible exact trivial)
  refine callF_of c4 ?_
  (refine ev ?_; try with_reducible exact trivial)
end Go.Proofs

/-
  STEREONET: the laws on pixels and lower directions, given the chapter's examples. Own work.
-/
namespace Go.Proofs
open Go Go.Pi Go.RowKit Go.Ar Go.Ne

theorem firE_errN (n : Option (Int × Int)) (l : List S3) : firE n l = errN n l := rfl
theorem any_long {l : List S3} (h : (!l.any longS) = true) : ∀ v ∈ l, szS 12 v := fun v hv => by
  refine Classical.byContradiction fun hn => ?_
  have : l.any longS = true := List.any_eq_true.2 ⟨v, hv, dB_iff.2 hn⟩
  rw [this] at h; cases h
end Go.Proofs

/-
  STEREONET: Within. Own work.
-/
namespace Go.Proofs
open Go Go.Pi Go.RowKit Go.Ar Go.Ne

/-- the places below k with a property -/
def idx (q : Nat → Bool) : Nat → List Int
  | 0 => []
  | k + 1 => if q k then idx q k ++ [(k : Int)] else idx q k
theorem idx_len (q : Nat → Bool) : ∀ k, (idx q k).length ≤ k
  | 0 => Nat.le_refl _
  | k + 1 => by
    have := idx_len q k
    simp only [idx]; split <;> simp <;> omega
/-- is the k-th pole in the cone? -/
def inW (a : V3) (c : Rat) (l : List V3) (k : Nat) : Bool := match l[k]? with
  | some p => decide (c * c * dot3 a a * dot3 p p ≤ dot3 a p * dot3 a p)
  | none => false
noncomputable def conE (a : S3) (c : List UInt8) (l : List S3) : Int :=
  if numE [a] ≠ 0 then 2 else if chk (okR c) ≠ 0 then 2 else if numE l ≠ 0 then 2 else if 400 < l.length then 4 else if zerE (a :: l) ≠ 0 then 17 else if val c < 0 ∨ 1 < val c then 3 else 0
noncomputable def withR (a : S3) (c : List UInt8) (l : List S3) : D :=
  if conE a c l = 0 then .tup [.sl (idx (inW (val3 a) (val c) (l.map val3)) l.length).length (ints .i64 (idx (inW (val3 a) (val c) (l.map val3)) l.length)), .int .i64 0] else .tup [.sl 0 [], .int .i64 (conE a c l)]
theorem withR_al (a : S3) (c : List UInt8) (l : List S3) : aliasOf (withR a c l) = none := by unfold withR; split <;> rfl
theorem chk_2 {p : Prop} : chk p ≠ 0 → chk p = 2 := fun h => chk_f (fun hp => h (chk_t hp))
theorem zer_17 {l : List S3} (h : zerE l ≠ 0) : zerE l = 17 := by
  unfold zerE at *
  cases h2 : l.any zS
  · rw [h2] at h; exact absurd rfl h
  · rfl
theorem rt_p1' : rt 1 = [49] := by kernel_rfl
theorem rd_01' : rd (1 : Rat) ≤ 1 := by rw [show (1 : Rat) = ((1 : Int) : Rat) from rfl]; exact rd_int (by decide) (by decide)
set_option maxRecDepth 100000 in
set_option maxHeartbeats 8000000 in
theorem Tryz.swithin (a : S3) (c : List UInt8) (l : List S3) (ha : szS 200 a) (hc : c.length ≤ 200) (hl : l.length ≤ 900) (hz : ∀ v ∈ l, szS 200 v) :
    Con Tryz.prog Tryz.L 20 [.agg (svD a), .str c, lS l] (withR a c l) := by
  have hs1 : ∀ v : S3, szS 200 v → szS 1000000 v := fun v h => by obtain ⟨x, y, z⟩ := h; exact ⟨by omega, by omega, by omega⟩
  have n1 := Tryz.snumbers [a] (by simp) (fun x hx => by obtain rfl := List.mem_singleton.1 hx; exact hs1 _ ha)
  have n2 := Tryz.rcheck c (by omega)
  have n3 := Tryz.snumbers l (by omega) (fun x hx => hs1 _ (hz x hx))
  have n4 := Tryz.szeros (a :: l) (by simp; omega)
  refine rule20 Tryz.hL (withR_al _ _ _) rfl rfl ?_
  simp only [svD, pc20, rs20, oU, oC, evX, evY, evZ, forall_const, implies_true, initE, stepF, D.clean, mvF, moF, tkF, shF, ariF, ciF, catF, scF, ebF, eqF, eqOk, eqPr, enF, notF, ngF, cvF, csF, csbF, lenF, lenSF, ixF, iaF, PX.slot, iaAF, faF, ldF, D.mem, stF, bxF, mkSF, boundF, fldF, ixAF, mmF2, D.plain, D.isPure, optAll, D.dull, callVF, splice, D.cells, D.one, sets, resT, D.flat, D.flat0, D.simple, Nat.reduceBNe, Nat.reduceLT, reduceIte, Nat.reduceEqDiff, Nat.reduceAdd, Nat.reduceMul, Nat.reduceSub, Nat.reduceLeDiff, Int.reduceToNat, Int.reduceLT, Int.reduceLE, Int.reduceEq, Int.reduceNeg, Int.reduceSub, Int.reduceAdd, Int.reduceMul, stG_own]
  refine callF_of n1 ?_
  (refine ev ?_; try with_reducible exact trivial)
  unfold withR
  refine ⟨fun e1 => ?_, fun e1 => ?_⟩
  · have e : conE a c l = 2 := by unfold conE; rw [if_pos e1]
    rw [e, if_neg (by decide), show numE [a] = 2 from chk_2 e1]; rfl
  refine callF_of n2 ?_
  (refine ev ?_; try with_reducible exact trivial)
  refine ⟨fun e2 => ?_, fun e2 => ?_⟩
  · have e : conE a c l = 2 := by unfold conE; rw [if_neg e1, if_pos e2]
    rw [e, if_neg (by decide), show chk (okR c) = 2 from chk_2 e2]; rfl
  refine callF_of n3 ?_
  (refine ev ?_; try with_reducible exact trivial)
  refine ⟨fun e3 => ?_, fun e3 => ?_⟩
  · have e : conE a c l = 2 := by unfold conE; rw [if_neg e1, if_neg e2, if_pos e3]
    rw [e, if_neg (by decide), show numE l = 2 from chk_2 e3]; rfl
  refine ⟨fun e4 => ?_, fun e4 => ?_⟩
  · have e : conE a c l = 4 := by unfold conE; rw [if_neg e1, if_neg e2, if_neg e3, if_pos (by omega)]
    rw [e, if_neg (by decide)]; rfl
  have k1 := num_0.1 (Classical.not_not.1 e1) a (by simp)
  have k2 := chk_0.1 (Classical.not_not.1 e2)
  have k3 := num_0.1 (Classical.not_not.1 e3)
  obtain ⟨q, hq⟩ : ∃ q, q = val c := ⟨_, rfl⟩
  obtain ⟨A, hA⟩ : ∃ A, A = val3 a := ⟨_, rfl⟩
  have ec : c = rt q := by rw [hq]; exact val_rt k2
  have ea : a = tx3 A := by rw [hA]; exact val3_tx k1
  have za : Sz3 200 A := by rw [hA]; exact val3_sz k1 ha
  have rq : rd q ≤ 200 := by have := rd_rtlen q; rw [← ec] at this; omega
  have e4' : lS (a :: l) = .sl (1 + l.length) (.str a.1 :: .str a.2.1 :: .str a.2.2 :: svs l) := by
    show D.sl (l.length + 1) _ = _
    rw [Nat.add_comm]; rfl
  rw [e4'] at n4
  have hlen := svs_len l
  refine ⟨by omega, by omega, by omega, ?_⟩
  refine callF_of n4 ?_
  (refine ev ?_; try with_reducible exact trivial)
  refine ⟨fun e5 => ?_, fun e5 => ?_⟩
  · have e : conE a c l = 17 := by unfold conE; rw [if_neg e1, if_neg e2, if_neg e3, if_neg (by omega), if_pos e5]
    rw [e, if_neg (by decide), zer_17 e5]; rfl
  have hcE : conE a c l = if q < 0 ∨ 1 < q then 3 else 0 := by unfold conE; rw [if_neg e1, if_neg e2, if_neg e3, if_neg (by omega), if_neg e5, ← hq]
  rw [hcE, ← hA, ← hq]
  clear hcE n1 n2 n3 n4 e1 e2 e3 e5 k1 k2 ha hc hA hq e4'
  subst ec
  subst ea
  have hr1 : ∀ v : V3, tx3 v = (rt v.1, rt v.2.1, rt v.2.2) := fun _ => rfl
  have cS := Tryz.rsign q (by omega)
  have cC := Tryz.rcompare q 1 (by omega) (by have := rd_01'; omega)
  rw [rt_p1'] at cC
  have p1 := sgn_nonneg q
  have cpl := cmpQ_le q 1
  have m1 := Tryz.rmul q q (by omega) (by omega)
  have d1 := Tryz.sdot A A (za.more (by decide)) (za.more (by decide))
  have z1 := rd_mul q q
  have z2 := sz_dot za za
  have m2 := Tryz.rmul (q * q) (dot3 A A) (by omega) (by omega)
  have z3 := rd_mul (q * q) (dot3 A A)
  have hin : ∀ k, inW A q (l.map val3) k = match l[k]? with | some x => decide (q * q * dot3 A A * dot3 (val3 x) (val3 x) ≤ dot3 A (val3 x) * dot3 A (val3 x)) | none => false := fun k => by
    unfold inW; rw [List.getElem?_map]; cases l[k]? <;> rfl
  have hid := idx_len (inW A q (l.map val3))
  have hsu : ∀ k, idx (inW A q (l.map val3)) (k + 1) = if inW A q (l.map val3) k then idx (inW A q (l.map val3)) k ++ [(k : Int)] else idx (inW A q (l.map val3)) k := fun k => rfl
  have hze : idx (inW A q (l.map val3)) 0 = [] := rfl
  generalize inW A q (l.map val3) = W at *
  simp only [hr1, svD, evX, evY, evZ, forall_const, implies_true, initE, stepF, D.clean, mvF, moF, tkF, shF, ariF, ciF, catF, scF, ebF, eqF, eqOk, eqPr, enF, notF, ngF, cvF, csF, csbF, lenF, lenSF, ixF, iaF, PX.slot, iaAF, faF, ldF, D.mem, stF, bxF, mkSF, boundF, fldF, ixAF, mmF2, D.plain, D.isPure, optAll, D.dull, callVF, splice, D.cells, D.one, sets, resT, D.flat, D.flat0, D.simple, Nat.reduceBNe, Nat.reduceLT, reduceIte, Nat.reduceEqDiff, Nat.reduceAdd, Nat.reduceMul, Nat.reduceSub, Nat.reduceLeDiff, Int.reduceToNat, Int.reduceLT, Int.reduceLE, Int.reduceEq, Int.reduceNeg, Int.reduceSub, Int.reduceAdd, Int.reduceMul, stG_own] at d1 ⊢
  refine callF_of cS ?_
  (refine ev ?_; try with_reducible exact trivial)
  have hneg : q.num.sign < 0 → q < 0 := fun h => Rat.not_le.1 (fun h2 => by have := p1.2 h2; omega)
  refine ⟨fun s1 => ?_, fun s1 => ?_⟩
  · have hq0 : 0 ≤ q := p1.1 (by omega)
    refine callF_of cC ?_
    (refine ev ?_; try with_reducible exact trivial)
    refine ⟨fun s2 => ?_, fun s2 => ?_⟩
    · have : ¬q ≤ 1 := fun h => by have := cpl.2 h; omega
      rw [if_pos (show q < 0 ∨ 1 < q from .inr (Rat.not_le.1 this)), if_neg (by decide)]
      rfl
    · have hq1 : q ≤ 1 := cpl.1 (by omega)
      rw [if_neg (show ¬(q < 0 ∨ 1 < q) from fun h => h.elim (Rat.not_lt.2 hq0) (Rat.not_lt.2 hq1)), if_pos rfl]
      refine callF_of m1 ?_
      (refine ev ?_; try with_reducible exact trivial)
      refine callF_of d1 ?_
      (refine ev ?_; try with_reducible exact trivial)
      refine callF_of m2 ?_
      (refine ev ?_; try with_reducible exact trivial)
      refine loopF_of (fun E => ∃ j : Nat, j ≤ l.length ∧ E = [(3, .box true [.str (rt A.1), .str (rt A.2.1), .str (rt A.2.2)]), (12, .str (rt (q * q * dot3 A A))), (13, .own true 3 (idx W j).length (ints .i64 (idx W j))), (59, lS l), (60, .int .i64 l.length), (61, .int .i64 j)])
        (fun E => match lk E 61 with | .int _ i => l.length - i.toNat | _ => 0) ⟨0, by omega, by rw [hze]; rfl⟩ ?_
      rintro _ ⟨j, hj, rfl⟩
      simp only [evX, evY, evZ, forall_const, implies_true, initE, stepF, D.clean, mvF, moF, tkF, shF, ariF, ciF, catF, scF, ebF, eqF, eqOk, eqPr, enF, notF, ngF, cvF, csF, csbF, lenF, lenSF, ixF, iaF, PX.slot, iaAF, faF, ldF, D.mem, stF, bxF, mkSF, boundF, fldF, ixAF, mmF2, D.plain, D.isPure, optAll, D.dull, callVF, splice, D.cells, D.one, sets, resT, D.flat, D.flat0, D.simple, Nat.reduceBNe, Nat.reduceLT, reduceIte, Nat.reduceEqDiff, Nat.reduceAdd, Nat.reduceMul, Nat.reduceSub, Nat.reduceLeDiff, Int.reduceToNat, Int.reduceLT, Int.reduceLE, Int.reduceEq, Int.reduceNeg, Int.reduceSub, Int.reduceAdd, Int.reduceMul, stG_own, ldC_svs]
      refine ⟨fun h1 => ?_, fun h1 => ?_⟩
      · have hx : l[j]? = some (l[j]'(by omega)) := List.getElem?_eq_getElem (by omega)
        generalize l[j]'(by omega) = x at hx
        refine ⟨⟨by omega, by omega, by omega⟩, x, hx, ?_⟩
        have hm := List.mem_of_getElem? hx
        have hok := k3 x hm
        have hxe := val3_tx hok
        have hxz := val3_sz hok (hz x hm)
        have hW := hin j
        rw [hx] at hW
        simp only at hW
        have hs := hsu j
        have hlj := hid j
        generalize val3 x = P at *
        subst hxe
        have d2 := Tryz.sdot A P (za.more (by decide)) (hxz.more (by decide))
        have d3 := Tryz.sdot P P (hxz.more (by decide)) (hxz.more (by decide))
        have z4 := sz_dot za hxz
        have z5 := sz_dot hxz hxz
        have m3 := Tryz.rmul (dot3 A P) (dot3 A P) (by omega) (by omega)
        have z6 := rd_mul (dot3 A P) (dot3 A P)
        have m4 := Tryz.rmul (q * q * dot3 A A) (dot3 P P) (by omega) (by omega)
        have z7 := rd_mul (q * q * dot3 A A) (dot3 P P)
        have cC2 := Tryz.rcompare (dot3 A P * dot3 A P) (q * q * dot3 A A * dot3 P P) (by omega) (by omega)
        have cge := cmpQ_ge (dot3 A P * dot3 A P) (q * q * dot3 A A * dot3 P P)
        simp only [hr1, svD, evX, evY, evZ, forall_const, implies_true, initE, stepF, D.clean, mvF, moF, tkF, shF, ariF, ciF, catF, scF, ebF, eqF, eqOk, eqPr, enF, notF, ngF, cvF, csF, csbF, lenF, lenSF, ixF, iaF, PX.slot, iaAF, faF, ldF, D.mem, stF, bxF, mkSF, boundF, fldF, ixAF, mmF2, D.plain, D.isPure, optAll, D.dull, callVF, splice, D.cells, D.one, sets, resT, D.flat, D.flat0, D.simple, Nat.reduceBNe, Nat.reduceLT, reduceIte, Nat.reduceEqDiff, Nat.reduceAdd, Nat.reduceMul, Nat.reduceSub, Nat.reduceLeDiff, Int.reduceToNat, Int.reduceLT, Int.reduceLE, Int.reduceEq, Int.reduceNeg, Int.reduceSub, Int.reduceAdd, Int.reduceMul, stG_own] at d2 d3 ⊢
        refine callF_of d2 ?_
        (refine ev ?_; try with_reducible exact trivial)
        refine callF_of m3 ?_
        (refine ev ?_; try with_reducible exact trivial)
        refine callF_of d3 ?_
        (refine ev ?_; try with_reducible exact trivial)
        refine callF_of m4 ?_
        (refine ev ?_; try with_reducible exact trivial)
        refine callF_of cC2 ?_
        (refine ev ?_; try with_reducible exact trivial)
        refine ⟨fun h2 => ?_, fun h2 => ?_⟩
        · have hw : W j = true := by rw [hW]; exact decide_eq_true (cge.1 h2)
          rw [if_pos hw] at hs
          exact ⟨by omega, by omega, ⟨by omega, by omega⟩, ⟨j + 1, by omega, by rw [hs, List.length_append]; rfl, by simp⟩, by omega⟩
        · have hw : ¬W j = true := by rw [hW, decide_eq_true_eq]; exact fun h => h2 (cge.2 h)
          rw [if_neg hw] at hs
          exact ⟨⟨by omega, by omega⟩, ⟨j + 1, by omega, by rw [hs], by simp⟩, by omega⟩
      · obtain rfl : j = l.length := by omega
        rfl
  · rw [if_pos (show q < 0 ∨ 1 < q from .inl (hneg s1)), if_neg (by decide)]
    rfl
end Go.Proofs

/-
  STEREONET: the law on cones. Own work.
-/
namespace Go.Proofs
open Go Go.Pi Go.RowKit Go.Ar Go.Ne

theorem num_cons {a : S3} {l : List S3} : numE (a :: l) = 0 ↔ numE [a] = 0 ∧ numE l = 0 := by
  rw [num_0, num_0, num_0]; simp
theorem conE_first {a : S3} {c : List UInt8} {l : List S3} (hl : l.length ≤ 400) : conE a c l = if chk (okR c) ≠ 0 then 2 else if errN none (a :: l) ≠ 0 then errN none (a :: l) else if val c < 0 ∨ 1 < val c then 3 else 0 := by
  unfold conE errN
  simp only
  have hn := num_cons (a := a) (l := l)
  have hle : ¬400 < l.length := by omega
  by_cases h5 : chk (okR c) = 0
  · by_cases h1 : numE [a] = 0
    · by_cases h2 : numE l = 0
      · have h3 := hn.2 ⟨h1, h2⟩
        by_cases h4 : zerE (a :: l) = 0
        · simp [h1, h2, h3, h4, h5, hle]
        · have h6 := zer_17 h4
          simp [h1, h2, h3, h6, h5, hle]
      · have h3 : numE (a :: l) = 2 := chk_2 (fun h => h2 (hn.1 h).2)
        simp [h1, h2, h3, h5]
    · have h3 : numE (a :: l) = 2 := chk_2 (fun h => h1 (hn.1 h).1)
      simp [h1, h3, h5]
  · simp [h5]
theorem lS_cons (a : S3) (l : List S3) : lS (a :: l) = .sl (1 + l.length) (.str a.1 :: .str a.2.1 :: .str a.2.2 :: svs l) := by
  show D.sl (l.length + 1) _ = _
  rw [Nat.add_comm]; rfl
set_option maxRecDepth 100000 in
set_option maxHeartbeats 8000000 in
theorem Tryz.stereonetCones (hk : Con Tryz.prog Tryz.L 10 [] (.bool true)) (a : S3) (c : List UInt8) (l : List S3) (ha : szS 1048576 a) (hc : c.length ≤ 1048576) (hl : l.length ≤ 1048576) (hz : ∀ v ∈ l, szS 1048576 v) :
    Con Tryz.prog Tryz.L 5 [.agg (svD a), .str c, lS l] (.bool true) := by
  have hb1 := Tryz.lbrief [a] (by simp) (fun x hx => (List.mem_singleton.1 hx) ▸ ha)
  refine rule5 Tryz.hL rfl rfl rfl ?_
  by_cases h6 : 6 < l.length
  · simp only [svD, pc5, rs5, oU, oC, evX, evY, evZ, forall_const, implies_true, initE, stepF, D.clean, mvF, moF, tkF, shF, ariF, ciF, catF, scF, ebF, eqF, eqOk, eqPr, enF, notF, ngF, cvF, csF, csbF, lenF, lenSF, ixF, iaF, PX.slot, iaAF, faF, ldF, D.mem, stF, bxF, mkSF, boundF, fldF, ixAF, mmF2, D.plain, D.isPure, optAll, D.dull, callVF, splice, D.cells, D.one, sets, resT, D.flat, D.flat0, D.simple, Nat.reduceBNe, Nat.reduceLT, reduceIte, Nat.reduceEqDiff, Nat.reduceAdd, Nat.reduceMul, Nat.reduceSub, Nat.reduceLeDiff, Int.reduceToNat, Int.reduceLT, Int.reduceLE, Int.reduceEq, Int.reduceNeg, Int.reduceSub, Int.reduceAdd, Int.reduceMul, stG_own]
    refine callF_of hk ?_
    (refine ev ?_; try with_reducible exact trivial)
    refine ⟨fun h => by omega, fun _ => ?_⟩
    refine callF_of hk ?_
    (refine ev ?_; try with_reducible exact trivial)
  · have hb2 := Tryz.lbrief l (by omega) hz
    have h6' : ¬(6 : Int) < (l.length : Int) := by omega
    simp only [svD, pc5, rs5, oU, oC, evX, evY, evZ, forall_const, implies_true, initE, stepF, D.clean, mvF, moF, tkF, shF, ariF, ciF, catF, scF, ebF, eqF, eqOk, eqPr, enF, notF, ngF, cvF, csF, csbF, lenF, lenSF, ixF, iaF, PX.slot, iaAF, faF, ldF, D.mem, stF, bxF, mkSF, boundF, fldF, ixAF, mmF2, D.plain, D.isPure, optAll, D.dull, callVF, splice, D.cells, D.one, sets, resT, D.flat, D.flat0, D.simple, Nat.reduceBNe, Nat.reduceLT, reduceIte, Nat.reduceEqDiff, Nat.reduceAdd, Nat.reduceMul, Nat.reduceSub, Nat.reduceLeDiff, Int.reduceToNat, Int.reduceLT, Int.reduceLE, Int.reduceEq, Int.reduceNeg, Int.reduceSub, Int.reduceAdd, Int.reduceMul, stG_own] at hb1 ⊢
    refine callF_of hk ?_
    (refine ev ?_; try with_reducible exact trivial)
    refine ⟨fun _ => ?_, fun h => absurd h h6'⟩
    refine callF_of hb1 ?_
    cases hx1 : (!([a].any longS)) with
    | false =>
      (refine ev ?_; try with_reducible exact trivial)
      refine callF_of hk ?_
      (refine ev ?_; try with_reducible exact trivial)
    | true =>
      (refine ev ?_; try with_reducible exact trivial)
      refine callF_of hb2 ?_
      cases hx2 : (!(l.any longS)) with
      | false =>
        (refine ev ?_; try with_reducible exact trivial)
        refine callF_of hk ?_
        (refine ev ?_; try with_reducible exact trivial)
      | true =>
        (refine ev ?_; try with_reducible exact trivial)
        refine ⟨fun h12 => ?_, fun h12 => ?_⟩
        · refine callF_of hk ?_
          (refine ev ?_; try with_reducible exact trivial)
        · have a12 := any_long hx1 a (by simp)
          have l12 := any_long hx2
          have hmo : ∀ {v : S3} {k : Nat}, szS 12 v → 12 ≤ k → szS k v := fun h hk => by obtain ⟨x, y, z⟩ := h; exact ⟨by omega, by omega, by omega⟩
          have hw := Tryz.swithin a c l (hmo a12 (by decide)) (by omega) (by omega) (fun v hv => hmo (l12 v hv) (by decide))
          have hf := Tryz.lfirstN (a :: l) (by simp; omega) (fun v hv => by
            rcases List.mem_cons.1 hv with rfl | hv
            · exact hmo a12 (by decide)
            · exact hmo (l12 v hv) (by decide))
          rw [firE_errN, lS_cons] at hf
          have hr := Tryz.qright c (by omega)
          have hE := conE_first (a := a) (c := c) (l := l) (by omega)
          have hlen := svs_len l
          unfold withR at hw
          have hidx : ∀ k, inW (val3 a) (val c) (l.map val3) k = match l[k]? with | some x => decide (val c * val c * dot3 (val3 a) (val3 a) * dot3 (val3 x) (val3 x) ≤ dot3 (val3 a) (val3 x) * dot3 (val3 a) (val3 x)) | none => false := fun k => by
            unfold inW; rw [List.getElem?_map]; cases l[k]? <;> rfl
          have hid := idx_len (inW (val3 a) (val c) (l.map val3))
          have hsu : ∀ k, idx (inW (val3 a) (val c) (l.map val3)) (k + 1) = if inW (val3 a) (val c) (l.map val3) k then idx (inW (val3 a) (val c) (l.map val3)) k ++ [(k : Int)] else idx (inW (val3 a) (val c) (l.map val3)) k := fun k => rfl
          have hze : idx (inW (val3 a) (val c) (l.map val3)) 0 = [] := rfl
          generalize inW (val3 a) (val c) (l.map val3) = W at *
          refine callF_of hw ?_
          by_cases hE0 : conE a c l = 0
          · rw [if_pos hE0]
            rw [hE0] at hE
            have h5 : chk (okR c) = 0 := Classical.byContradiction fun h => by rw [if_pos h] at hE; exact absurd hE (by decide)
            rw [if_neg (show ¬chk (okR c) ≠ 0 by simp [h5])] at hE
            have hF0 : errN none (a :: l) = 0 := Classical.byContradiction fun h => by rw [if_pos h] at hE; exact h hE.symm
            rw [if_neg (by simp [hF0])] at hE
            have hq : ¬(val c < 0 ∨ 1 < val c) := fun h => by rw [if_pos h] at hE; exact absurd hE (by decide)
            rw [hF0] at hf
            have hok := chk_0.1 h5
            rw [dB_iff.2 hok] at hr
            (refine ev ?_; try with_reducible exact trivial)
            refine ⟨by omega, by omega, by omega, ?_⟩
            refine callF_of hf ?_
            (refine ev ?_; try with_reducible exact trivial)
            refine callF_of hr ?_
            (refine ev ?_; try with_reducible exact trivial)
            have k3 := num_0.1 ((num_cons (a := a) (l := l)).1 (num_0.2 (errNn_0.1 hF0).1)).2
            have k1 := (errNn_0.1 hF0).1 a (by simp)
            have ec := val_rt hok
            have ea := val3_tx k1
            have za := val3_sz k1 a12
            have rq : rd (val c) ≤ 12 := by have := rd_rtlen (val c); rw [← ec] at this; omega
            clear hf hr hw hE h5 hF0 hok k1 hE0 hb1 hb2 ha hc hz
            generalize val c = q at *
            generalize val3 a = A at *
            subst ec
            subst ea
            have hr1 : ∀ v : V3, tx3 v = (rt v.1, rt v.2.1, rt v.2.2) := fun _ => rfl
            have cS := Tryz.qsign q (by omega)
            have cC := Tryz.qcompare q 1 (by omega) (by have := rd_01'; omega)
            rw [rt_p1'] at cC
            have p1 := sgn_nonneg q
            have cpl := cmpQ_le q 1
            have hq0 : 0 ≤ q := Rat.not_lt.1 (fun h => hq (.inl h))
            have hq1 : q ≤ 1 := Rat.not_lt.1 (fun h => hq (.inr h))
            have p1' := p1.2 hq0
            have cpl' := cpl.2 hq1
            have m1 := Tryz.lmul q q (by omega) (by omega)
            have d1 := Tryz.ldot A A (za.more (by decide)) (za.more (by decide))
            have z1 := rd_mul q q
            have z2 := sz_dot za za
            simp only [hr1, svD, evX, evY, evZ, forall_const, implies_true, initE, stepF, D.clean, mvF, moF, tkF, shF, ariF, ciF, catF, scF, ebF, eqF, eqOk, eqPr, enF, notF, ngF, cvF, csF, csbF, lenF, lenSF, ixF, iaF, PX.slot, iaAF, faF, ldF, D.mem, stF, bxF, mkSF, boundF, fldF, ixAF, mmF2, D.plain, D.isPure, optAll, D.dull, callVF, splice, D.cells, D.one, sets, resT, D.flat, D.flat0, D.simple, Nat.reduceBNe, Nat.reduceLT, reduceIte, Nat.reduceEqDiff, Nat.reduceAdd, Nat.reduceMul, Nat.reduceSub, Nat.reduceLeDiff, Int.reduceToNat, Int.reduceLT, Int.reduceLE, Int.reduceEq, Int.reduceNeg, Int.reduceSub, Int.reduceAdd, Int.reduceMul, stG_own] at d1 ⊢
            refine callF_of cS ?_
            (refine ev ?_; try with_reducible exact trivial)
            refine ⟨fun _ => ?_, fun h => by omega⟩
            refine callF_of cC ?_
            (refine ev ?_; try with_reducible exact trivial)
            refine ⟨fun h => by omega, fun _ => ?_⟩
            refine loopF_of (fun E => ∃ j : Nat, j ≤ l.length ∧ E = [(1, .str (rt q)), (3, .box true [.str (rt A.1), .str (rt A.2.1), .str (rt A.2.2)]), (7, .sl (idx W l.length).length (ints .i64 (idx W l.length))), (8, .int .i64 0), (10, .own true 3 (idx W j).length (ints .i64 (idx W j))), (75, lS l), (76, .int .i64 l.length), (77, .int .i64 j)])
              (fun E => match lk E 77 with | .int _ i => l.length - i.toNat | _ => 0) ⟨0, by omega, by rw [hze]; rfl⟩ ?_
            rintro _ ⟨j, hj, rfl⟩
            simp only [evX, evY, evZ, forall_const, implies_true, initE, stepF, D.clean, mvF, moF, tkF, shF, ariF, ciF, catF, scF, ebF, eqF, eqOk, eqPr, enF, notF, ngF, cvF, csF, csbF, lenF, lenSF, ixF, iaF, PX.slot, iaAF, faF, ldF, D.mem, stF, bxF, mkSF, boundF, fldF, ixAF, mmF2, D.plain, D.isPure, optAll, D.dull, callVF, splice, D.cells, D.one, sets, resT, D.flat, D.flat0, D.simple, Nat.reduceBNe, Nat.reduceLT, reduceIte, Nat.reduceEqDiff, Nat.reduceAdd, Nat.reduceMul, Nat.reduceSub, Nat.reduceLeDiff, Int.reduceToNat, Int.reduceLT, Int.reduceLE, Int.reduceEq, Int.reduceNeg, Int.reduceSub, Int.reduceAdd, Int.reduceMul, stG_own, ldC_svs]
            refine ⟨fun h1 => ?_, fun h1 => ?_⟩
            · have hx : l[j]? = some (l[j]'(by omega)) := List.getElem?_eq_getElem (by omega)
              generalize l[j]'(by omega) = x at hx
              refine ⟨⟨by omega, by omega, by omega⟩, x, hx, ?_⟩
              have hm := List.mem_of_getElem? hx
              have hok := k3 x hm
              have hxe := val3_tx hok
              have hxz := val3_sz hok (l12 x hm)
              have hW := hidx j
              rw [hx] at hW
              simp only at hW
              have hs := hsu j
              have hlj := hid j
              generalize val3 x = P at *
              subst hxe
              have d2 := Tryz.ldot A P (za.more (by decide)) (hxz.more (by decide))
              have d3 := Tryz.ldot P P (hxz.more (by decide)) (hxz.more (by decide))
              have z4 := sz_dot za hxz
              have z5 := sz_dot hxz hxz
              have m3 := Tryz.lmul (dot3 A P) (dot3 A P) (by omega) (by omega)
              have z6 := rd_mul (dot3 A P) (dot3 A P)
              have m4 := Tryz.lmul (dot3 A A) (dot3 P P) (by omega) (by omega)
              have z7 := rd_mul (dot3 A A) (dot3 P P)
              have m5 := Tryz.lmul (q * q) (dot3 A A * dot3 P P) (by omega) (by omega)
              have z8 := rd_mul (q * q) (dot3 A A * dot3 P P)
              have cC2 := Tryz.qcompare (dot3 A P * dot3 A P) (q * q * (dot3 A A * dot3 P P)) (by omega) (by omega)
              have cge := cmpQ_ge (dot3 A P * dot3 A P) (q * q * (dot3 A A * dot3 P P))
              rw [Rat.mul_assoc (q * q)] at hW
              simp only [hr1, svD, evX, evY, evZ, forall_const, implies_true, initE, stepF, D.clean, mvF, moF, tkF, shF, ariF, ciF, catF, scF, ebF, eqF, eqOk, eqPr, enF, notF, ngF, cvF, csF, csbF, lenF, lenSF, ixF, iaF, PX.slot, iaAF, faF, ldF, D.mem, stF, bxF, mkSF, boundF, fldF, ixAF, mmF2, D.plain, D.isPure, optAll, D.dull, callVF, splice, D.cells, D.one, sets, resT, D.flat, D.flat0, D.simple, Nat.reduceBNe, Nat.reduceLT, reduceIte, Nat.reduceEqDiff, Nat.reduceAdd, Nat.reduceMul, Nat.reduceSub, Nat.reduceLeDiff, Int.reduceToNat, Int.reduceLT, Int.reduceLE, Int.reduceEq, Int.reduceNeg, Int.reduceSub, Int.reduceAdd, Int.reduceMul, stG_own] at d2 d3 ⊢
              refine callF_of d2 ?_
              (refine ev ?_; try with_reducible exact trivial)
              refine callF_of m3 ?_
              (refine ev ?_; try with_reducible exact trivial)
              refine callF_of m1 ?_
              (refine ev ?_; try with_reducible exact trivial)
              refine callF_of d1 ?_
              (refine ev ?_; try with_reducible exact trivial)
              refine callF_of d3 ?_
              (refine ev ?_; try with_reducible exact trivial)
              refine callF_of m4 ?_
              (refine ev ?_; try with_reducible exact trivial)
              refine callF_of m5 ?_
              (refine ev ?_; try with_reducible exact trivial)
              refine callF_of cC2 ?_
              (refine ev ?_; try with_reducible exact trivial)
              refine ⟨fun h2 => ?_, fun h2 => ?_⟩
              · have hw : W j = true := by rw [hW]; exact decide_eq_true (cge.1 h2)
                rw [if_pos hw] at hs
                exact ⟨by omega, by omega, ⟨by omega, by omega⟩, ⟨j + 1, by omega, by rw [hs, List.length_append]; rfl, by simp⟩, by omega⟩
              · have hw : ¬W j = true := by rw [hW, decide_eq_true_eq]; exact fun h => h2 (cge.2 h)
                rw [if_neg hw] at hs
                exact ⟨⟨by omega, by omega⟩, ⟨j + 1, by omega, by rw [hs], by simp⟩, by omega⟩
            · obtain rfl : j = l.length := by omega
              have heq := Tryz.eqInts (idx W l.length) (idx W l.length) (by have := hid l.length; omega)
              refine callF_of heq ?_
              rw [dB_iff.2 rfl]
              (refine ev ?_; try with_reducible exact trivial)
          · rw [if_neg hE0]
            (refine ev ?_; try with_reducible exact trivial)
            refine ⟨by omega, by omega, by omega, ?_⟩
            refine callF_of hf ?_
            (refine ev ?_; try with_reducible exact trivial)
            refine callF_of hr ?_
            (refine ev ?_; try with_reducible exact trivial)
            refine ⟨fun hno => ⟨fun _ => dB_iff.2 rfl, fun h => h (by rw [hE, if_pos (fun h2 => hno (chk_0.1 h2))])⟩, fun hyes => ?_⟩
            have hok := Classical.not_not.1 hyes
            rw [if_neg (show ¬chk (okR c) ≠ 0 by simp [chk_0.2 hok])] at hE
            generalize conE a c l = e at *
            refine ⟨fun hF0 => ?_, fun hF => ?_⟩
            · rw [if_neg (by simp [hF0])] at hE
              have hq : val c < 0 ∨ 1 < val c := Classical.byContradiction fun h => by rw [if_neg h] at hE; exact hE0 hE
              rw [if_pos hq] at hE
              subst hE
              have ec := val_rt hok
              have rq : rd (val c) ≤ 12 := by have := rd_rtlen (val c); rw [← ec] at this; omega
              have cS := Tryz.qsign (val c) (by omega)
              have cC := Tryz.qcompare (val c) 1 (by omega) (by have := rd_01'; omega)
              rw [rt_p1', ← ec] at cC
              rw [← ec] at cS
              have p1 := sgn_nonneg (val c)
              have cpl := cmpQ_le (val c) 1
              generalize val c = q at *
              refine callF_of cS ?_
              (refine ev ?_; try with_reducible exact trivial)
              have d : dB (((0 : Nat) : Int) = 0) = true := dB_iff.2 rfl
              have hF0' : errN none (a :: l) = 0 := hF0
              rw [hF0']
              refine ⟨fun h1 => ?_, fun h1 => ?_⟩
              · refine callF_of cC ?_
                (refine ev ?_; try with_reducible exact trivial)
                refine ⟨fun h2 => ?_, fun h2 => ?_⟩
                · exact d
                · refine hq.elim (fun h => ?_) (fun h => ?_)
                  · exact absurd (p1.1 (by omega)) (Rat.not_le.2 h)
                  · exact absurd (cpl.1 (by omega)) (Rat.not_le.2 h)
              · exact d
            · rw [if_pos hF] at hE
              subst hE
              exact ⟨fun _ => ⟨fun _ => dB_iff.2 rfl, fun h => h rfl⟩, fun h => absurd hF h⟩
end Go.Proofs
