/-
  SEAT 22: Order; ColumnRestricts over data. Own work.
-/
import Derived.Test.YthfgjhnckegneaaGreatDoorPj
import Derived.Test.YthfgjhnckegneaaGreatDoorSd
namespace Go.Proofs
open Go Go.Pi Go.RowKit

theorem Tryz.c70 {f : Nat} {caps : List D} (p : List UInt8 → Bool) (l : List (List UInt8)) (hl : l.length ≤ 2000000) (h : ∀ x ∈ l, Con Tryz.prog Tryz.L f ([.str x] ++ caps) (.bool (p x))) :
    Con Tryz.prog Tryz.L 70 [.sl l.length (strs l), .clo f caps] (.int .i64 (idx p l)) := by
  refine rule70 Tryz.hL rfl rfl rfl ?_
  simp only [pc70, rs70, evA, evB, evC, forall_const, implies_true, initE, stepF, D.clean, mvF, moF, tkF, shF, ariF, ciF, catF, scF, ebF, eqF, eqOk, eqPr, enF, notF, ngF, cvF, csF, csbF, lenF, lenSF, ixF, iaF, PX.slot, iaAF, faF, ldF, D.mem, stF, bxF, mkSF, boundF, fldF, mmF2, D.plain, D.isPure, optAll, D.dull, callVF, splice, D.cells, D.one, sets, resT, D.flat, D.flat0, D.simple, Nat.reduceBNe, Nat.reduceLT, reduceIte, Nat.reduceEqDiff, Nat.reduceAdd, Nat.reduceMul, Nat.reduceSub, Nat.reduceLeDiff, Int.reduceToNat, Int.reduceLT, Int.reduceLE, Int.reduceEq, Int.reduceNeg, Int.reduceSub, Int.reduceAdd, Int.reduceMul]
  refine loopF_of (fun E => ∃ k : Nat, k ≤ l.length ∧ idx p l = idxA p (l.drop k) k ∧ E = [(0, .sl l.length (strs l)), (1, .clo f caps), (7, .int .i64 l.length), (8, .int .i64 k)])
    (fun E => match lk E 8 with | .int _ i => l.length - i.toNat | _ => 0) ⟨0, Nat.zero_le _, rfl, rfl⟩ ?_
  rintro _ ⟨k, hk, hi, rfl⟩
  simp only [evA, evB, evC, forall_const, implies_true, initE, stepF, D.clean, mvF, moF, tkF, shF, ariF, ciF, catF, scF, ebF, eqF, eqOk, eqPr, enF, notF, ngF, cvF, csF, csbF, lenF, lenSF, ixF, iaF, PX.slot, iaAF, faF, ldF, D.mem, stF, bxF, mkSF, boundF, fldF, mmF2, D.plain, D.isPure, optAll, D.dull, callVF, splice, D.cells, D.one, sets, resT, D.flat, D.flat0, D.simple, Nat.reduceBNe, Nat.reduceLT, reduceIte, Nat.reduceEqDiff, Nat.reduceAdd, Nat.reduceMul, Nat.reduceSub, Nat.reduceLeDiff, Int.reduceToNat, Int.reduceLT, Int.reduceLE, Int.reduceEq, Int.reduceNeg, Int.reduceSub, Int.reduceAdd, Int.reduceMul, ldC_strs]
  refine ⟨fun h1 => ?_, fun h1 => ?_⟩
  · have hx : l[k]? = some (l[k]'(by omega)) := List.getElem?_eq_getElem (by omega)
    generalize l[k]'(by omega) = x at hx
    have hd := drop_cons hx
    refine ⟨⟨by omega, by rw [strs_length]; omega⟩, x, hx, ?_⟩
    refine callF_of (h x (List.mem_of_getElem? hx)) ?_
    simp only [evA, evB, evC, forall_const, implies_true, initE, stepF, D.clean, mvF, moF, tkF, shF, ariF, ciF, catF, scF, ebF, eqF, eqOk, eqPr, enF, notF, ngF, cvF, csF, csbF, lenF, lenSF, ixF, iaF, PX.slot, iaAF, faF, ldF, D.mem, stF, bxF, mkSF, boundF, fldF, mmF2, D.plain, D.isPure, optAll, D.dull, callVF, splice, D.cells, D.one, sets, resT, D.flat, D.flat0, D.simple, Nat.reduceBNe, Nat.reduceLT, reduceIte, Nat.reduceEqDiff, Nat.reduceAdd, Nat.reduceMul, Nat.reduceSub, Nat.reduceLeDiff, Int.reduceToNat, Int.reduceLT, Int.reduceLE, Int.reduceEq, Int.reduceNeg, Int.reduceSub, Int.reduceAdd, Int.reduceMul]
    rw [hd] at hi
    simp only [idxA] at hi
    cases hp : p x with
    | true =>
      simp only [evA, evB, evC, forall_const, implies_true, initE, stepF, D.clean, mvF, moF, tkF, shF, ariF, ciF, catF, scF, ebF, eqF, eqOk, eqPr, enF, notF, ngF, cvF, csF, csbF, lenF, lenSF, ixF, iaF, PX.slot, iaAF, faF, ldF, D.mem, stF, bxF, mkSF, boundF, fldF, mmF2, D.plain, D.isPure, optAll, D.dull, callVF, splice, D.cells, D.one, sets, resT, D.flat, D.flat0, D.simple, Nat.reduceBNe, Nat.reduceLT, reduceIte, Nat.reduceEqDiff, Nat.reduceAdd, Nat.reduceMul, Nat.reduceSub, Nat.reduceLeDiff, Int.reduceToNat, Int.reduceLT, Int.reduceLE, Int.reduceEq, Int.reduceNeg, Int.reduceSub, Int.reduceAdd, Int.reduceMul]
      rw [hi, hp]; rfl
    | false =>
      simp only [evA, evB, evC, forall_const, implies_true, initE, stepF, D.clean, mvF, moF, tkF, shF, ariF, ciF, catF, scF, ebF, eqF, eqOk, eqPr, enF, notF, ngF, cvF, csF, csbF, lenF, lenSF, ixF, iaF, PX.slot, iaAF, faF, ldF, D.mem, stF, bxF, mkSF, boundF, fldF, mmF2, D.plain, D.isPure, optAll, D.dull, callVF, splice, D.cells, D.one, sets, resT, D.flat, D.flat0, D.simple, Nat.reduceBNe, Nat.reduceLT, reduceIte, Nat.reduceEqDiff, Nat.reduceAdd, Nat.reduceMul, Nat.reduceSub, Nat.reduceLeDiff, Int.reduceToNat, Int.reduceLT, Int.reduceLE, Int.reduceEq, Int.reduceNeg, Int.reduceSub, Int.reduceAdd, Int.reduceMul]
      have hi2 : idx p l = idxA p (l.drop (k + 1)) (k + 1) := by rw [hi, hp]; rfl
      refine ⟨by omega, ⟨k + 1, by omega, hi2, rfl⟩, by omega⟩
  · have : k = l.length := by omega
    subst this
    rw [hi]; simp [idxA]

theorem Tryz.c37 {f : Nat} {caps : List D} (p : List UInt8 → Bool) (l : List (List UInt8)) (hl : l.length ≤ 2000000) (h : ∀ x ∈ l, Con Tryz.prog Tryz.L f ([.str x] ++ caps) (.bool (p x))) :
    Con Tryz.prog Tryz.L 37 [.sl l.length (strs l), .clo f caps] (.bool (dB (0 ≤ idx p l))) := by
  refine rule37 Tryz.hL rfl rfl rfl ?_
  simp only [pc37, rs37, evA, evB, evC, forall_const, implies_true, initE, stepF, D.clean, mvF, moF, tkF, shF, ariF, ciF, catF, scF, ebF, eqF, eqOk, eqPr, enF, notF, ngF, cvF, csF, csbF, lenF, lenSF, ixF, iaF, PX.slot, iaAF, faF, ldF, D.mem, stF, bxF, mkSF, boundF, fldF, mmF2, D.plain, D.isPure, optAll, D.dull, callVF, splice, D.cells, D.one, sets, resT, D.flat, D.flat0, D.simple, Nat.reduceBNe, Nat.reduceLT, reduceIte, Nat.reduceEqDiff, Nat.reduceAdd, Nat.reduceMul, Nat.reduceSub, Nat.reduceLeDiff, Int.reduceToNat, Int.reduceLT, Int.reduceLE, Int.reduceEq, Int.reduceNeg, Int.reduceSub, Int.reduceAdd, Int.reduceMul]
  refine callF_of (Tryz.c70 p l hl h) ?_
  simp only [evA, evB, evC, forall_const, implies_true, initE, stepF, D.clean, mvF, moF, tkF, shF, ariF, ciF, catF, scF, ebF, eqF, eqOk, eqPr, enF, notF, ngF, cvF, csF, csbF, lenF, lenSF, ixF, iaF, PX.slot, iaAF, faF, ldF, D.mem, stF, bxF, mkSF, boundF, fldF, mmF2, D.plain, D.isPure, optAll, D.dull, callVF, splice, D.cells, D.one, sets, resT, D.flat, D.flat0, D.simple, Nat.reduceBNe, Nat.reduceLT, reduceIte, Nat.reduceEqDiff, Nat.reduceAdd, Nat.reduceMul, Nat.reduceSub, Nat.reduceLeDiff, Int.reduceToNat, Int.reduceLT, Int.reduceLE, Int.reduceEq, Int.reduceNeg, Int.reduceSub, Int.reduceAdd, Int.reduceMul]

theorem Tryz.c38 (l : List Lay) (hl : l.length ≤ 1000) (s : List UInt8) : Con Tryz.prog Tryz.L 38 ([.str s] ++ [.pt [.sl l.length (lays l)]]) (.bool (dB (pos l s < 0))) := by
  refine rule38 Tryz.hL rfl rfl rfl ?_
  simp only [pc38, rs38, evA, evB, evC, forall_const, implies_true, initE, stepF, D.clean, mvF, moF, tkF, shF, ariF, ciF, catF, scF, ebF, eqF, eqOk, eqPr, enF, notF, ngF, cvF, csF, csbF, lenF, lenSF, ixF, iaF, PX.slot, iaAF, faF, ldF, D.mem, stF, bxF, mkSF, boundF, fldF, mmF2, D.plain, D.isPure, optAll, D.dull, callVF, splice, D.cells, D.one, sets, resT, D.flat, D.flat0, D.simple, Nat.reduceBNe, Nat.reduceLT, reduceIte, Nat.reduceEqDiff, Nat.reduceAdd, Nat.reduceMul, Nat.reduceSub, Nat.reduceLeDiff, Int.reduceToNat, Int.reduceLT, Int.reduceLE, Int.reduceEq, Int.reduceNeg, Int.reduceSub, Int.reduceAdd, Int.reduceMul]
  refine callF_of (Tryz.c20p l s hl) ?_
  simp only [evA, evB, evC, forall_const, implies_true, initE, stepF, D.clean, mvF, moF, tkF, shF, ariF, ciF, catF, scF, ebF, eqF, eqOk, eqPr, enF, notF, ngF, cvF, csF, csbF, lenF, lenSF, ixF, iaF, PX.slot, iaAF, faF, ldF, D.mem, stF, bxF, mkSF, boundF, fldF, mmF2, D.plain, D.isPure, optAll, D.dull, callVF, splice, D.cells, D.one, sets, resT, D.flat, D.flat0, D.simple, Nat.reduceBNe, Nat.reduceLT, reduceIte, Nat.reduceEqDiff, Nat.reduceAdd, Nat.reduceMul, Nat.reduceSub, Nat.reduceLeDiff, Int.reduceToNat, Int.reduceLT, Int.reduceLE, Int.reduceEq, Int.reduceNeg, Int.reduceSub, Int.reduceAdd, Int.reduceMul]

/-- the first place from i on, of n places, that is not above the one before it -/
def bfr (ps : List Int) : Nat → Nat → Int
  | 0, _ => -1
  | n + 1, i => if ps.getD i 0 ≤ ps.getD (i - 1) 0 then i else bfr ps n (i + 1)
theorem bfr_snoc (ps : List Int) : ∀ (n i : Nat), bfr ps (n + 1) i = if bfr ps n i < 0 then (if ps.getD (i + n) 0 ≤ ps.getD (i + n - 1) 0 then ((i + n : Nat) : Int) else -1) else bfr ps n i
  | 0, i => by simp [bfr]
  | n + 1, i => by
    rw [bfr]
    by_cases h : ps.getD i 0 ≤ ps.getD (i - 1) 0
    · rw [if_pos h]
      have e : bfr ps (n + 1) i = i := by rw [bfr, if_pos h]
      rw [e, if_neg (by omega)]
    · rw [if_neg h, bfr_snoc ps n (i + 1)]
      have e : bfr ps (n + 1) i = bfr ps n (i + 1) := by rw [bfr, if_neg h]
      rw [e, show i + 1 + n = i + (n + 1) by omega]
theorem bfr_lo (ps : List Int) : ∀ (n i : Nat), bfr ps n i = -1 ∨ ((i : Int) ≤ bfr ps n i ∧ bfr ps n i < i + n)
  | 0, i => .inl rfl
  | n + 1, i => by
    rw [bfr]
    split
    · right; omega
    · rcases bfr_lo ps n (i + 1) with h | h
      · exact .inl h
      · right; omega

/-- a unit that is not there -/
def unk (l : List Lay) (us : List (List UInt8)) : Bool := us.any fun u => decide (pos l u < 0)
def ordI (l : List Lay) (us : List (List UInt8)) : Int := bfr (us.map (pos l)) (us.length - 1) 1

set_option maxHeartbeats 2000000 in
theorem Tryz.c36 (l : List Lay) (us : List (List UInt8)) (hl : l.length ≤ 1000) (hu : us.length ≤ 2000000) (hc : Con Tryz.prog Tryz.L 45 [.sl l.length (lays l)] (.int .i64 0)) :
    (unk l us = true → Con Tryz.prog Tryz.L 36 [.sl l.length (lays l), .sl us.length (strs us)] (.tup [.int .i64 0, .bool false, .int .i64 10])) ∧
    (unk l us = false → Con Tryz.prog Tryz.L 36 [.sl l.length (lays l), .sl us.length (strs us)] (.tup [.int .i64 (if ordI l us < 0 then 0 else ordI l us), .bool (decide (ordI l us < 0)), .int .i64 0])) := by
  have key : ∀ r : D, aliasOf r = none → (unk l us = true → r = .tup [.int .i64 0, .bool false, .int .i64 10]) → (unk l us = false → r = .tup [.int .i64 (if ordI l us < 0 then 0 else ordI l us), .bool (decide (ordI l us < 0)), .int .i64 0]) →
      Con Tryz.prog Tryz.L 36 [.sl l.length (lays l), .sl us.length (strs us)] r := by
    intro r hr0 hr1 hr2
    refine rule36 Tryz.hL hr0 rfl rfl ?_
    simp only [pc36, rs36, evA, evB, evC, forall_const, implies_true, initE, stepF, D.clean, mvF, moF, tkF, shF, ariF, ciF, catF, scF, ebF, eqF, eqOk, eqPr, enF, notF, ngF, cvF, csF, csbF, lenF, lenSF, ixF, iaF, PX.slot, iaAF, faF, ldF, D.mem, stF, bxF, mkSF, boundF, fldF, mmF2, D.plain, D.isPure, optAll, D.dull, callVF, splice, D.cells, D.one, sets, resT, D.flat, D.flat0, D.simple, Nat.reduceBNe, Nat.reduceLT, reduceIte, Nat.reduceEqDiff, Nat.reduceAdd, Nat.reduceMul, Nat.reduceSub, Nat.reduceLeDiff, Int.reduceToNat, Int.reduceLT, Int.reduceLE, Int.reduceEq, Int.reduceNeg, Int.reduceSub, Int.reduceAdd, Int.reduceMul]
    refine callF_of hc ?_
    simp only [evA, evB, evC, forall_const, implies_true, initE, stepF, D.clean, mvF, moF, tkF, shF, ariF, ciF, catF, scF, ebF, eqF, eqOk, eqPr, enF, notF, ngF, cvF, csF, csbF, lenF, lenSF, ixF, iaF, PX.slot, iaAF, faF, ldF, D.mem, stF, bxF, mkSF, boundF, fldF, mmF2, D.plain, D.isPure, optAll, D.dull, callVF, splice, D.cells, D.one, sets, resT, D.flat, D.flat0, D.simple, Nat.reduceBNe, Nat.reduceLT, reduceIte, Nat.reduceEqDiff, Nat.reduceAdd, Nat.reduceMul, Nat.reduceSub, Nat.reduceLeDiff, Int.reduceToNat, Int.reduceLT, Int.reduceLE, Int.reduceEq, Int.reduceNeg, Int.reduceSub, Int.reduceAdd, Int.reduceMul]
    refine loopF_of (fun E => ∃ k : Nat, k ≤ us.length ∧ (∀ u ∈ us.take k, 0 ≤ pos l u) ∧ E = [(0, .sl l.length (lays l)), (8, .own true 3 k (ints .i64 ((us.take k).map (pos l)))), (18, .sl us.length (strs us)), (19, .int .i64 us.length), (20, .int .i64 k)])
      (fun E => match lk E 20 with | .int _ i => us.length - i.toNat | _ => 0) ⟨0, Nat.zero_le _, fun u h => by (simp at h), rfl⟩ ?_
    rintro _ ⟨k, hk, hi, rfl⟩
    simp only [evA, evB, evC, forall_const, implies_true, initE, stepF, D.clean, mvF, moF, tkF, shF, ariF, ciF, catF, scF, ebF, eqF, eqOk, eqPr, enF, notF, ngF, cvF, csF, csbF, lenF, lenSF, ixF, iaF, PX.slot, iaAF, faF, ldF, D.mem, stF, bxF, mkSF, boundF, fldF, mmF2, D.plain, D.isPure, optAll, D.dull, callVF, splice, D.cells, D.one, sets, resT, D.flat, D.flat0, D.simple, Nat.reduceBNe, Nat.reduceLT, reduceIte, Nat.reduceEqDiff, Nat.reduceAdd, Nat.reduceMul, Nat.reduceSub, Nat.reduceLeDiff, Int.reduceToNat, Int.reduceLT, Int.reduceLE, Int.reduceEq, Int.reduceNeg, Int.reduceSub, Int.reduceAdd, Int.reduceMul, ldC_strs]
    refine ⟨fun h1 => ?_, fun h1 => ?_⟩
    · have hx : us[k]? = some (us[k]'(by omega)) := List.getElem?_eq_getElem (by omega)
      have ht : us.take (k + 1) = us.take k ++ [us[k]'(by omega)] := List.take_succ_eq_append_getElem (by omega)
      generalize us[k]'(by omega) = u at hx ht
      refine ⟨⟨by omega, by rw [strs_length]; omega⟩, u, hx, ?_⟩
      refine callF_of (show Con Tryz.prog Tryz.L 56 _ (.int .i64 (pos l u)) from Tryz.c56 l u hl) ?_
      simp only [evA, evB, evC, forall_const, implies_true, initE, stepF, D.clean, mvF, moF, tkF, shF, ariF, ciF, catF, scF, ebF, eqF, eqOk, eqPr, enF, notF, ngF, cvF, csF, csbF, lenF, lenSF, ixF, iaF, PX.slot, iaAF, faF, ldF, D.mem, stF, bxF, mkSF, boundF, fldF, mmF2, D.plain, D.isPure, optAll, D.dull, callVF, splice, D.cells, D.one, sets, resT, D.flat, D.flat0, D.simple, Nat.reduceBNe, Nat.reduceLT, reduceIte, Nat.reduceEqDiff, Nat.reduceAdd, Nat.reduceMul, Nat.reduceSub, Nat.reduceLeDiff, Int.reduceToNat, Int.reduceLT, Int.reduceLE, Int.reduceEq, Int.reduceNeg, Int.reduceSub, Int.reduceAdd, Int.reduceMul]
      refine ⟨fun h2 => ?_, fun h2 => ⟨by omega, by omega, by omega, ⟨k + 1, by omega, ?_, ?_, rfl⟩, by omega⟩⟩
      · rw [hr1 (List.any_eq_true.2 ⟨u, List.mem_of_getElem? hx, by simpa using h2⟩)]; rfl
      · intro v hv
        rw [ht] at hv
        rcases List.mem_append.1 hv with hv | hv
        · exact hi v hv
        · rw [List.mem_singleton.1 hv]; omega
      · rw [ht, List.map_append]; rfl
    · have : k = us.length := by omega
      subst this
      rw [List.take_length] at hi
      have hun : unk l us = false := List.any_eq_false.2 fun u hu => by have := hi u hu; simp; omega
      rw [hr2 hun]
      have hps : (us.map (pos l)).length = us.length := List.length_map ..
      simp only [List.take_length]
      have eO : ordI l us = bfr (us.map (pos l)) (us.length - 1) 1 := rfl
      rw [eO]
      generalize us.map (pos l) = ps at hps ⊢
      rw [← hps]
      refine loopF_of (fun E => ∃ i : Nat, 1 ≤ i ∧ (i ≤ ps.length ∨ i = 1) ∧ bfr ps (ps.length - 1) 1 = bfr ps (ps.length - i) i ∧ E = [(8, .own true 3 ps.length (ints .i64 ps)), (12, .int .i64 i)])
        (fun E => match lk E 12 with | .int _ i => ps.length - i.toNat | _ => 0) ⟨1, by omega, .inr rfl, rfl, rfl⟩ ?_
      rintro _ ⟨i, hi1, hi2, hb, rfl⟩
      simp only [evA, evB, evC, forall_const, implies_true, initE, stepF, D.clean, mvF, moF, tkF, shF, ariF, ciF, catF, scF, ebF, eqF, eqOk, eqPr, enF, notF, ngF, cvF, csF, csbF, lenF, lenSF, ixF, iaF, PX.slot, iaAF, faF, ldF, D.mem, stF, bxF, mkSF, boundF, fldF, mmF2, D.plain, D.isPure, optAll, D.dull, callVF, splice, D.cells, D.one, sets, resT, D.flat, D.flat0, D.simple, Nat.reduceBNe, Nat.reduceLT, reduceIte, Nat.reduceEqDiff, Nat.reduceAdd, Nat.reduceMul, Nat.reduceSub, Nat.reduceLeDiff, Int.reduceToNat, Int.reduceLT, Int.reduceLE, Int.reduceEq, Int.reduceNeg, Int.reduceSub, Int.reduceAdd, Int.reduceMul]
      refine ⟨fun h3 => ?_, fun h3 => ?_⟩
      · have e1 : ((i : Int) - 1).toNat = i - 1 := by omega
        obtain ⟨n, hn⟩ : ∃ n, ps.length - i = n + 1 := ⟨ps.length - i - 1, by omega⟩
        rw [hn, bfr] at hb
        rw [e1]
        refine ⟨by omega, by omega, by omega, by omega, by omega, fun h4 => ?_, fun h4 => ?_⟩
        · rw [if_pos h4] at hb
          rw [hb, if_neg (by omega), decide_eq_false (by omega)]; rfl
        · rw [if_neg h4] at hb
          exact ⟨by omega, ⟨i + 1, by omega, by omega, by rw [hb, show ps.length - (i + 1) = n by omega], rfl⟩, by omega⟩
      · rw [show ps.length - i = 0 by omega, bfr] at hb
        rw [hb]; rfl
  exact ⟨fun h => key _ rfl (fun _ => rfl) (fun h' => by rw [h] at h'; cases h'), fun h => key _ rfl (fun h' => by rw [h] at h'; cases h') (fun _ => rfl)⟩
end Go.Proofs

/-
  SEAT 22: ColumnRestricts over data. Own work.
-/
namespace Go.Proofs
open Go Go.Pi Go.RowKit

theorem cu9 : ∀ c, Tryz.f9.body = some c → ∀ q ∈ cusL c pc9, CusOk Tryz.prog Tryz.L q.1 q.2.1 q.2.2 := by
  intro c hc q hq
  cases Option.some.inj hc
  simp only [pc9, cusL, List.nil_append, List.append_nil, List.mem_singleton, List.cons_append] at hq
  subst hq
  exact dfT_ok Tryz.hL rfl rfl rfl rfl (by kernel_rfl) rfl rfl rfl rfl rfl (by kernel_rfl) rfl rfl rfl rfl rfl (by kernel_rfl) (by kernel_rfl) (by kernel_rfl) (by decide) (by decide) (by decide) (by decide) (by decide) (by decide)

theorem rsA_snoc (l : List Lay) (u : List UInt8) : ∀ (r pre : List (List UInt8)), rsA l pre (r ++ [u]) = if rsA l pre r = 0 then (if pos l u < 0 then 10 else if has (pre ++ r) u = true then 9 else 0) else rsA l pre r
  | [], pre => by simp [rsA]
  | v :: r, pre => by
    rw [List.cons_append, rsA, rsA]
    by_cases h1 : pos l v < 0
    · simp [h1]
    · by_cases h2 : has pre v = true
      · simp [h1, h2]
      · simp only [h1, h2, if_false]
        rw [rsA_snoc l u r (pre ++ [v]), List.append_assoc]; rfl
theorem btt : (true == true) = true := rfl
theorem bff : (false == false) = true := rfl
theorem unk_idx (l : List Lay) (us : List (List UInt8)) : dB (0 ≤ idx (fun s => dB (pos l s < 0)) us) = unk l us := by
  rw [Bool.eq_iff_iff, dB_iff]
  unfold unk
  rw [List.any_eq_true]
  constructor
  · intro h
    rcases Decidable.em (∃ u ∈ us, pos l u < 0) with ⟨u, h1, h2⟩ | hn
    · exact ⟨u, h1, by simpa using h2⟩
    · have : idx (fun s => dB (pos l s < 0)) us = -1 := idxA_none fun u hu => by
        cases hb : dB (pos l u < 0) with
        | false => rfl
        | true => exact absurd ⟨u, hu, dB_iff.1 hb⟩ hn
      omega
  · rintro ⟨u, h1, h2⟩
    rcases Decidable.em (0 ≤ idx (fun s => dB (pos l s < 0)) us) with h | h
    · exact h
    · have := idxA_ge h u h1
      rw [dB_iff.2 (by simpa using h2)] at this
      cases this

set_option maxRecDepth 100000 in
set_option maxHeartbeats 4000000 in
theorem Tryz.c9 (p : Pl) (hp : p.ok) (us : List (List UInt8)) (hu : us.length ≤ 1048576) : Con Tryz.prog Tryz.L 9 [p.d, .sl us.length (strs us)] (.bool true) := by
  refine rule9 Tryz.hL (fun q hq => by simp [PC.backs, pc9] at hq) cu9 rfl rfl rfl ?_
  simp only [pc9, rs9, Pl.d, dfT_f, evX, evY, evZ, forall_const, implies_true, initE, stepF, D.clean, mvF, moF, tkF, shF, ariF, ciF, catF, scF, ebF, eqF, eqOk, eqPr, enF, notF, ngF, cvF, csF, csbF, lenF, lenSF, ixF, iaF, PX.slot, iaAF, faF, ldF, D.mem, stF, bxF, mkSF, boundF, fldF, mmF2, D.plain, D.isPure, optAll, D.dull, callVF, splice, D.cells, D.one, sets, resT, D.flat, D.flat0, D.simple, Nat.reduceBNe, Nat.reduceLT, reduceIte, Nat.reduceEqDiff, Nat.reduceAdd, Nat.reduceMul, Nat.reduceSub, Nat.reduceLeDiff, Int.reduceToNat, Int.reduceLT, Int.reduceLE, Int.reduceEq, Int.reduceNeg, Int.reduceSub, Int.reduceAdd, Int.reduceMul]
  refine callF_of Tryz.c11 ?_
  simp only [evX, evY, evZ, forall_const, implies_true, initE, stepF, D.clean, mvF, moF, tkF, shF, ariF, ciF, catF, scF, ebF, eqF, eqOk, eqPr, enF, notF, ngF, cvF, csF, csbF, lenF, lenSF, ixF, iaF, PX.slot, iaAF, faF, ldF, D.mem, stF, bxF, mkSF, boundF, fldF, mmF2, D.plain, D.isPure, optAll, D.dull, callVF, splice, D.cells, D.one, sets, resT, D.flat, D.flat0, D.simple, Nat.reduceBNe, Nat.reduceLT, reduceIte, Nat.reduceEqDiff, Nat.reduceAdd, Nat.reduceMul, Nat.reduceSub, Nat.reduceLeDiff, Int.reduceToNat, Int.reduceLT, Int.reduceLE, Int.reduceEq, Int.reduceNeg, Int.reduceSub, Int.reduceAdd, Int.reduceMul, dfT_f]
  refine ⟨fun h6 => ?_, fun h6 => ?_⟩
  · refine callF_of Tryz.c11 ?_
    simp only [evX, evY, evZ, forall_const, implies_true, initE, stepF, D.clean, mvF, moF, tkF, shF, ariF, ciF, catF, scF, ebF, eqF, eqOk, eqPr, enF, notF, ngF, cvF, csF, csbF, lenF, lenSF, ixF, iaF, PX.slot, iaAF, faF, ldF, D.mem, stF, bxF, mkSF, boundF, fldF, mmF2, D.plain, D.isPure, optAll, D.dull, callVF, splice, D.cells, D.one, sets, resT, D.flat, D.flat0, D.simple, Nat.reduceBNe, Nat.reduceLT, reduceIte, Nat.reduceEqDiff, Nat.reduceAdd, Nat.reduceMul, Nat.reduceSub, Nat.reduceLeDiff, Int.reduceToNat, Int.reduceLT, Int.reduceLE, Int.reduceEq, Int.reduceNeg, Int.reduceSub, Int.reduceAdd, Int.reduceMul]
  · have h12 := Con.plain (Tryz.c12 p hp)
    simp only [Pl.d] at h12
    refine callF_of h12 ?_
    simp only [evX, evY, evZ, forall_const, implies_true, initE, stepF, D.clean, mvF, moF, tkF, shF, ariF, ciF, catF, scF, ebF, eqF, eqOk, eqPr, enF, notF, ngF, cvF, csF, csbF, lenF, lenSF, ixF, iaF, PX.slot, iaAF, faF, ldF, D.mem, stF, bxF, mkSF, boundF, fldF, mmF2, D.plain, D.isPure, optAll, D.dull, callVF, splice, D.cells, D.one, sets, resT, D.flat, D.flat0, D.simple, Nat.reduceBNe, Nat.reduceLT, reduceIte, Nat.reduceEqDiff, Nat.reduceAdd, Nat.reduceMul, Nat.reduceSub, Nat.reduceLeDiff, Int.reduceToNat, Int.reduceLT, Int.reduceLE, Int.reduceEq, Int.reduceNeg, Int.reduceSub, Int.reduceAdd, Int.reduceMul, dfT_f]
    have hA := p.make_acc
    generalize p.make = l at hA ⊢
    have h60 := hA.len
    refine callF_of (Tryz.c33 l us (by omega) (by omega) hA.check) ?_
    simp only [evX, evY, evZ, forall_const, implies_true, initE, stepF, D.clean, mvF, moF, tkF, shF, ariF, ciF, catF, scF, ebF, eqF, eqOk, eqPr, enF, notF, ngF, cvF, csF, csbF, lenF, lenSF, ixF, iaF, PX.slot, iaAF, faF, ldF, D.mem, stF, bxF, mkSF, boundF, fldF, mmF2, D.plain, D.isPure, optAll, D.dull, callVF, splice, D.cells, D.one, sets, resT, D.flat, D.flat0, D.simple, Nat.reduceBNe, Nat.reduceLT, reduceIte, Nat.reduceEqDiff, Nat.reduceAdd, Nat.reduceMul, Nat.reduceSub, Nat.reduceLeDiff, Int.reduceToNat, Int.reduceLT, Int.reduceLE, Int.reduceEq, Int.reduceNeg, Int.reduceSub, Int.reduceAdd, Int.reduceMul, dfT_f]
    obtain ⟨o1, o2⟩ := Tryz.c36 l us (by omega) (by omega) hA.check
    have h37 := Tryz.c37 (f := 38) (caps := [.pt [.sl l.length (lays l)]]) (fun s => dB (pos l s < 0)) us (by omega) (fun s _ => Tryz.c38 l (by omega) s)
    rw [unk_idx] at h37
    obtain ⟨K, B, F, h36, hKBF⟩ : ∃ (K : Int) (B : Bool) (F : Int), Con Tryz.prog Tryz.L 36 [.sl l.length (lays l), .sl us.length (strs us)] (.tup [.int .i64 K, .bool B, .int .i64 F]) ∧
        ((unk l us = true ∧ K = 0 ∧ B = false ∧ F = 10) ∨ (unk l us = false ∧ K = (if ordI l us < 0 then 0 else ordI l us) ∧ B = decide (ordI l us < 0) ∧ F = 0)) := by
      cases hun : unk l us with
      | true => exact ⟨_, _, _, o1 hun, .inl ⟨rfl, rfl, rfl, rfl⟩⟩
      | false => exact ⟨_, _, _, o2 hun, .inr ⟨rfl, rfl, rfl, rfl⟩⟩
    refine callF_of h36 ?_
    simp only [evX, evY, evZ, forall_const, implies_true, initE, stepF, D.clean, mvF, moF, tkF, shF, ariF, ciF, catF, scF, ebF, eqF, eqOk, eqPr, enF, notF, ngF, cvF, csF, csbF, lenF, lenSF, ixF, iaF, PX.slot, iaAF, faF, ldF, D.mem, stF, bxF, mkSF, boundF, fldF, mmF2, D.plain, D.isPure, optAll, D.dull, callVF, splice, D.cells, D.one, sets, resT, D.flat, D.flat0, D.simple, Nat.reduceBNe, Nat.reduceLT, reduceIte, Nat.reduceEqDiff, Nat.reduceAdd, Nat.reduceMul, Nat.reduceSub, Nat.reduceLeDiff, Int.reduceToNat, Int.reduceLT, Int.reduceLE, Int.reduceEq, Int.reduceNeg, Int.reduceSub, Int.reduceAdd, Int.reduceMul, dfT_f]
    refine callF_of h37 ?_
    simp only [evX, evY, evZ, forall_const, implies_true, initE, stepF, D.clean, mvF, moF, tkF, shF, ariF, ciF, catF, scF, ebF, eqF, eqOk, eqPr, enF, notF, ngF, cvF, csF, csbF, lenF, lenSF, ixF, iaF, PX.slot, iaAF, faF, ldF, D.mem, stF, bxF, mkSF, boundF, fldF, mmF2, D.plain, D.isPure, optAll, D.dull, callVF, splice, D.cells, D.one, sets, resT, D.flat, D.flat0, D.simple, Nat.reduceBNe, Nat.reduceLT, reduceIte, Nat.reduceEqDiff, Nat.reduceAdd, Nat.reduceMul, Nat.reduceSub, Nat.reduceLeDiff, Int.reduceToNat, Int.reduceLT, Int.reduceLE, Int.reduceEq, Int.reduceNeg, Int.reduceSub, Int.reduceAdd, Int.reduceMul, dfT_f]
    have hps : (us.map (pos l)).length = us.length := List.length_map ..
    have w0 : ((us.length : Int) = 0 → (13 : Int) = if us = [] then 13 else rsA l [] (us.take 0)) ∧ (¬(us.length : Int) = 0 → (0 : Int) = if us = [] then 13 else rsA l [] (us.take 0)) := by
      constructor
      · intro h
        rw [if_pos (List.eq_nil_of_length_eq_zero (by omega))]
      · intro h
        rw [if_neg (fun e => h (by rw [e]; rfl))]; rfl
    refine ⟨fun h0 => ?_, fun h0 => ?_⟩
    all_goals
      refine loopF_of (fun E => ∃ k : Nat, k ≤ us.length ∧ E = [(3, .box true [.sl us.length (strs us)]), (5, .box false [.sl l.length (lays l)]), (6, .sl (rsL l us).length (lays (rsL l us))), (7, .int .i64 (rsE l us)), (8, .int .i64 K), (9, .bool B), (10, .int .i64 F), (11, .bool (unk l us)),
          (12, .int .i64 (if us = [] then 13 else rsA l [] (us.take k))), (13, .int .i64 (bfr (us.map (pos l)) (k - 1) 1)), (46, .sl us.length (strs us)), (47, .int .i64 us.length), (48, .int .i64 k)])
        (fun E => match lk E 48 with | .int _ i => us.length - i.toNat | _ => 0) ⟨0, Nat.zero_le _, by first | (rw [← w0.1 h0]; rfl) | (rw [← w0.2 h0]; rfl)⟩ ?_
      rintro _ ⟨k, hk, rfl⟩
      generalize hW : (if us = [] then (13 : Int) else rsA l [] (us.take k)) = w
      generalize hF : bfr (us.map (pos l)) (k - 1) 1 = ff
      by_cases h1 : (k : Int) < us.length
      case neg =>
        obtain rfl : k = us.length := by omega
        rw [List.take_length] at hW
        have hW : rsE l us = w := hW
        have hF : ordI l us = ff := hF
        rw [hF] at hKBF
        have bad : w ≠ 0 → rsL l us = [] := fun h => if_neg (by rw [hW]; exact h)
        rw [hW]
        rcases hKBF with ⟨e1, rfl, rfl, rfl⟩ | ⟨e1, hK, hB, rfl⟩
        · simp only [h1, e1, evX, evY, evZ, forall_const, implies_true, initE, stepF, D.clean, mvF, moF, tkF, shF, ariF, ciF, catF, scF, ebF, eqF, eqOk, eqPr, enF, notF, ngF, cvF, csF, csbF, lenF, lenSF, ixF, iaF, PX.slot, iaAF, faF, ldF, D.mem, stF, bxF, mkSF, boundF, fldF, mmF2, D.plain, D.isPure, optAll, D.dull, callVF, splice, D.cells, D.one, sets, resT, D.flat, D.flat0, D.simple, Nat.reduceBNe, Nat.reduceLT, reduceIte, Nat.reduceEqDiff, Nat.reduceAdd, Nat.reduceMul, Nat.reduceSub, Nat.reduceLeDiff, Int.reduceToNat, Int.reduceLT, Int.reduceLE, Int.reduceEq, Int.reduceNeg, Int.reduceSub, Int.reduceAdd, Int.reduceMul, dfT_f]
          refine ⟨fun hw => ?_, fun hw => ?_⟩
          · rw [bad hw]; exact dB_iff.2 rfl
          · have hw : w = 0 := Decidable.of_not_not hw
            have hrl : rsL l us = l.filter (fun x => !!has us x.u) := by
              unfold rsL
              rw [if_pos (hW.trans hw)]
              exact List.filter_congr fun x _ => (Bool.not_not _).symm
            have hrn : (rsL l us).length ≤ 1000 := by rw [hrl]; exact Nat.le_trans (List.length_filter_le _ _) (by omega)
            refine ⟨l.length, _, lays l, [.sl us.length (strs us)], _, false, true, rfl, rfl, hA.pos, ?_, Tryz.c41 l (by omega), Tryz.w40 (fun x => !has us x.u) l (by omega) (fun d hd => by rw [List.mem_singleton.1 hd]; rfl) (fun x _ => Tryz.c42 us (by omega) x), fun _ => ?_, fun h => h hw⟩
            · intro d hd
              obtain ⟨x, _, hdx⟩ := List.mem_flatMap.1 hd
              simp only [Lay.d, List.mem_cons, List.not_mem_nil, or_false] at hdx
              rcases hdx with rfl | rfl | rfl <;> rfl
            · rw [← hrl]
              refine callF_of (Tryz.c18 (rsL l us) hrn) ?_
              simp only [evX, evY, evZ, forall_const, implies_true, initE, stepF, D.clean, mvF, moF, tkF, shF, ariF, ciF, catF, scF, ebF, eqF, eqOk, eqPr, enF, notF, ngF, cvF, csF, csbF, lenF, lenSF, ixF, iaF, PX.slot, iaAF, faF, ldF, D.mem, stF, bxF, mkSF, boundF, fldF, mmF2, D.plain, D.isPure, optAll, D.dull, callVF, splice, D.cells, D.one, sets, resT, D.flat, D.flat0, D.simple, Nat.reduceBNe, Nat.reduceLT, reduceIte, Nat.reduceEqDiff, Nat.reduceAdd, Nat.reduceMul, Nat.reduceSub, Nat.reduceLeDiff, Int.reduceToNat, Int.reduceLT, Int.reduceLE, Int.reduceEq, Int.reduceNeg, Int.reduceSub, Int.reduceAdd, Int.reduceMul]
        · by_cases hf : ff < 0
          · rw [if_pos hf] at hK
            rw [decide_eq_true hf] at hB
            subst hK hB
            simp only [h1, e1, hf, btt, bff, evX, evY, evZ, forall_const, implies_true, initE, stepF, D.clean, mvF, moF, tkF, shF, ariF, ciF, catF, scF, ebF, eqF, eqOk, eqPr, enF, notF, ngF, cvF, csF, csbF, lenF, lenSF, ixF, iaF, PX.slot, iaAF, faF, ldF, D.mem, stF, bxF, mkSF, boundF, fldF, mmF2, D.plain, D.isPure, optAll, D.dull, callVF, splice, D.cells, D.one, sets, resT, D.flat, D.flat0, D.simple, Nat.reduceBNe, Nat.reduceLT, reduceIte, Nat.reduceEqDiff, Nat.reduceAdd, Nat.reduceMul, Nat.reduceSub, Nat.reduceLeDiff, Int.reduceToNat, Int.reduceLT, Int.reduceLE, Int.reduceEq, Int.reduceNeg, Int.reduceSub, Int.reduceAdd, Int.reduceMul, dfT_f]
            refine ⟨fun hw => ?_, fun hw => ?_⟩
            · rw [bad hw]; exact dB_iff.2 rfl
            · have hw : w = 0 := Decidable.of_not_not hw
              have hrl : rsL l us = l.filter (fun x => !!has us x.u) := by
                unfold rsL
                rw [if_pos (hW.trans hw)]
                exact List.filter_congr fun x _ => (Bool.not_not _).symm
              have hrn : (rsL l us).length ≤ 1000 := by rw [hrl]; exact Nat.le_trans (List.length_filter_le _ _) (by omega)
              refine ⟨l.length, _, lays l, [.sl us.length (strs us)], _, false, true, rfl, rfl, hA.pos, ?_, Tryz.c41 l (by omega), Tryz.w40 (fun x => !has us x.u) l (by omega) (fun d hd => by rw [List.mem_singleton.1 hd]; rfl) (fun x _ => Tryz.c42 us (by omega) x), fun _ => ?_, fun h => h hw⟩
              · intro d hd
                obtain ⟨x, _, hdx⟩ := List.mem_flatMap.1 hd
                simp only [Lay.d, List.mem_cons, List.not_mem_nil, or_false] at hdx
                rcases hdx with rfl | rfl | rfl <;> rfl
              · rw [← hrl]
                refine callF_of (Tryz.c18 (rsL l us) hrn) ?_
                simp only [evX, evY, evZ, forall_const, implies_true, initE, stepF, D.clean, mvF, moF, tkF, shF, ariF, ciF, catF, scF, ebF, eqF, eqOk, eqPr, enF, notF, ngF, cvF, csF, csbF, lenF, lenSF, ixF, iaF, PX.slot, iaAF, faF, ldF, D.mem, stF, bxF, mkSF, boundF, fldF, mmF2, D.plain, D.isPure, optAll, D.dull, callVF, splice, D.cells, D.one, sets, resT, D.flat, D.flat0, D.simple, Nat.reduceBNe, Nat.reduceLT, reduceIte, Nat.reduceEqDiff, Nat.reduceAdd, Nat.reduceMul, Nat.reduceSub, Nat.reduceLeDiff, Int.reduceToNat, Int.reduceLT, Int.reduceLE, Int.reduceEq, Int.reduceNeg, Int.reduceSub, Int.reduceAdd, Int.reduceMul]
          · rw [if_neg hf] at hK
            rw [decide_eq_false hf] at hB
            subst hK hB
            simp only [h1, e1, hf, btt, bff, evX, evY, evZ, forall_const, implies_true, initE, stepF, D.clean, mvF, moF, tkF, shF, ariF, ciF, catF, scF, ebF, eqF, eqOk, eqPr, enF, notF, ngF, cvF, csF, csbF, lenF, lenSF, ixF, iaF, PX.slot, iaAF, faF, ldF, D.mem, stF, bxF, mkSF, boundF, fldF, mmF2, D.plain, D.isPure, optAll, D.dull, callVF, splice, D.cells, D.one, sets, resT, D.flat, D.flat0, D.simple, Nat.reduceBNe, Nat.reduceLT, reduceIte, Nat.reduceEqDiff, Nat.reduceAdd, Nat.reduceMul, Nat.reduceSub, Nat.reduceLeDiff, Int.reduceToNat, Int.reduceLT, Int.reduceLE, Int.reduceEq, Int.reduceNeg, Int.reduceSub, Int.reduceAdd, Int.reduceMul, dfT_f]
            refine ⟨fun hw => ?_, fun hw => ?_⟩
            · rw [bad hw]; exact dB_iff.2 rfl
            · have hw : w = 0 := Decidable.of_not_not hw
              have hrl : rsL l us = l.filter (fun x => !!has us x.u) := by
                unfold rsL
                rw [if_pos (hW.trans hw)]
                exact List.filter_congr fun x _ => (Bool.not_not _).symm
              have hrn : (rsL l us).length ≤ 1000 := by rw [hrl]; exact Nat.le_trans (List.length_filter_le _ _) (by omega)
              refine ⟨l.length, _, lays l, [.sl us.length (strs us)], _, false, true, rfl, rfl, hA.pos, ?_, Tryz.c41 l (by omega), Tryz.w40 (fun x => !has us x.u) l (by omega) (fun d hd => by rw [List.mem_singleton.1 hd]; rfl) (fun x _ => Tryz.c42 us (by omega) x), fun _ => ?_, fun h => h hw⟩
              · intro d hd
                obtain ⟨x, _, hdx⟩ := List.mem_flatMap.1 hd
                simp only [Lay.d, List.mem_cons, List.not_mem_nil, or_false] at hdx
                rcases hdx with rfl | rfl | rfl <;> rfl
              · rw [← hrl]
                refine callF_of (Tryz.c18 (rsL l us) hrn) ?_
                simp only [evX, evY, evZ, forall_const, implies_true, initE, stepF, D.clean, mvF, moF, tkF, shF, ariF, ciF, catF, scF, ebF, eqF, eqOk, eqPr, enF, notF, ngF, cvF, csF, csbF, lenF, lenSF, ixF, iaF, PX.slot, iaAF, faF, ldF, D.mem, stF, bxF, mkSF, boundF, fldF, mmF2, D.plain, D.isPure, optAll, D.dull, callVF, splice, D.cells, D.one, sets, resT, D.flat, D.flat0, D.simple, Nat.reduceBNe, Nat.reduceLT, reduceIte, Nat.reduceEqDiff, Nat.reduceAdd, Nat.reduceMul, Nat.reduceSub, Nat.reduceLeDiff, Int.reduceToNat, Int.reduceLT, Int.reduceLE, Int.reduceEq, Int.reduceNeg, Int.reduceSub, Int.reduceAdd, Int.reduceMul]
      case pos =>
        have hx : us[k]? = some (us[k]'(by omega)) := List.getElem?_eq_getElem (by omega)
        have ht : us.take (k + 1) = us.take k ++ [us[k]'(by omega)] := List.take_succ_eq_append_getElem (by omega)
        have hpk : (us.map (pos l)).getD k 0 = pos l (us[k]'(by omega)) := by
          rw [List.getD_eq_getElem?_getD, List.getElem?_map, hx]; rfl
        have hpk1 : (us.map (pos l)).getD (k - 1) 0 = pos l (us[k - 1]'(by omega)) := by
          rw [List.getD_eq_getElem?_getD, List.getElem?_map, List.getElem?_eq_getElem (show k - 1 < us.length by omega)]; rfl
        have hx1 : us[k - 1]? = some (us[k - 1]'(by omega)) := List.getElem?_eq_getElem (by omega)
        generalize us[k]'(by omega) = u at hx ht hpk
        generalize us[k - 1]'(by omega) = u1 at hx1 hpk1
        have hne : us ≠ [] := fun e => by rw [e] at hx; simp at hx
        rw [if_neg hne] at hW
        have hW2 : (if us = [] then (13 : Int) else rsA l [] (us.take (k + 1))) = if w = 0 then (if pos l u < 0 then 10 else if has (us.take k) u = true then 9 else 0) else w := by
          rw [if_neg hne, ht, rsA_snoc, hW, List.nil_append]
        have hF0 : ¬(0 : Int) < k → ff = -1 ∧ bfr (us.map (pos l)) (k + 1 - 1) 1 = ff := fun h => by
          obtain rfl : k = 0 := by omega
          exact ⟨hF.symm, hF⟩
        have hF2 : (0 : Int) < k → bfr (us.map (pos l)) (k + 1 - 1) 1 = if ff < 0 then (if pos l u ≤ pos l u1 then (k : Int) else -1) else ff := fun h => by
          obtain ⟨n, rfl⟩ : ∃ n, k = n + 1 := ⟨k - 1, by omega⟩
          simp only [Nat.add_sub_cancel] at hF hpk1 ⊢
          rw [bfr_snoc, hF, show 1 + n = n + 1 by omega, show n + 1 - 1 = n by omega, hpk, hpk1]
        have fm : ff = -1 ∨ 0 ≤ ff := by
          rcases bfr_lo (us.map (pos l)) (k - 1) 1 with h | h
          · exact .inl (hF.symm.trans h)
          · rw [hF] at h; omega
        have fin : ∀ W F' : Int, W = (if us = [] then 13 else rsA l [] (us.take (k + 1))) → F' = bfr (us.map (pos l)) (k + 1 - 1) 1 → (-9223372036854775808 ≤ (k : Int) + 1 ∧ (k : Int) + 1 ≤ 9223372036854775807) ∧
            (∃ k_1 : Nat, k_1 ≤ us.length ∧ (12, D.int IntKind.i64 W) = (12, D.int IntKind.i64 (if us = [] then 13 else rsA l [] (List.take k_1 us))) ∧
              (13, D.int IntKind.i64 F') = (13, D.int IntKind.i64 (bfr (List.map (pos l) us) (k_1 - 1) 1)) ∧ (48, D.int IntKind.i64 ((k : Int) + 1)) = (48, D.int IntKind.i64 k_1)) ∧
            us.length - ((k : Int) + 1).toNat < us.length - k := fun W F' e1 e2 => ⟨by omega, ⟨k + 1, by omega, by rw [e1], by rw [e2], rfl⟩, by omega⟩
        by_cases hw : w = 0
        · rw [hw]
          rw [if_pos hw] at hW2
          simp only [h1, evX, evY, evZ, forall_const, implies_true, initE, stepF, D.clean, mvF, moF, tkF, shF, ariF, ciF, catF, scF, ebF, eqF, eqOk, eqPr, enF, notF, ngF, cvF, csF, csbF, lenF, lenSF, ixF, iaF, PX.slot, iaAF, faF, ldF, D.mem, stF, bxF, mkSF, boundF, fldF, mmF2, D.plain, D.isPure, optAll, D.dull, callVF, splice, D.cells, D.one, sets, resT, D.flat, D.flat0, D.simple, Nat.reduceBNe, Nat.reduceLT, reduceIte, Nat.reduceEqDiff, Nat.reduceAdd, Nat.reduceMul, Nat.reduceSub, Nat.reduceLeDiff, Int.reduceToNat, Int.reduceLT, Int.reduceLE, Int.reduceEq, Int.reduceNeg, Int.reduceSub, Int.reduceAdd, Int.reduceMul, ldC_strs, dfT_f]
          refine ⟨⟨by omega, by rw [strs_length]; omega⟩, u, hx, ?_⟩
          refine callF_of (Tryz.c20p l u (by omega)) ?_
          by_cases i0 : pos l u < 0
          · rw [if_pos i0] at hW2
            simp only [i0, evX, evY, evZ, forall_const, implies_true, initE, stepF, D.clean, mvF, moF, tkF, shF, ariF, ciF, catF, scF, ebF, eqF, eqOk, eqPr, enF, notF, ngF, cvF, csF, csbF, lenF, lenSF, ixF, iaF, PX.slot, iaAF, faF, ldF, D.mem, stF, bxF, mkSF, boundF, fldF, mmF2, D.plain, D.isPure, optAll, D.dull, callVF, splice, D.cells, D.one, sets, resT, D.flat, D.flat0, D.simple, Nat.reduceBNe, Nat.reduceLT, reduceIte, Nat.reduceEqDiff, Nat.reduceAdd, Nat.reduceMul, Nat.reduceSub, Nat.reduceLeDiff, Int.reduceToNat, Int.reduceLT, Int.reduceLE, Int.reduceEq, Int.reduceNeg, Int.reduceSub, Int.reduceAdd, Int.reduceMul, ldC_strs, dfT_f]
            refine ⟨fun k0 => ⟨fun f0 => ?_, fun f0 => ?_⟩, fun k0 => ?_⟩
            · refine callF_of (Tryz.c20p l u (by omega)) ?_
              simp only [evX, evY, evZ, forall_const, implies_true, initE, stepF, D.clean, mvF, moF, tkF, shF, ariF, ciF, catF, scF, ebF, eqF, eqOk, eqPr, enF, notF, ngF, cvF, csF, csbF, lenF, lenSF, ixF, iaF, PX.slot, iaAF, faF, ldF, D.mem, stF, bxF, mkSF, boundF, fldF, mmF2, D.plain, D.isPure, optAll, D.dull, callVF, splice, D.cells, D.one, sets, resT, D.flat, D.flat0, D.simple, Nat.reduceBNe, Nat.reduceLT, reduceIte, Nat.reduceEqDiff, Nat.reduceAdd, Nat.reduceMul, Nat.reduceSub, Nat.reduceLeDiff, Int.reduceToNat, Int.reduceLT, Int.reduceLE, Int.reduceEq, Int.reduceNeg, Int.reduceSub, Int.reduceAdd, Int.reduceMul, ldC_strs]
              refine ⟨by omega, ⟨by omega, by omega, by rw [strs_length]; omega⟩, u1, by rw [show ((k : Int) - 1).toNat = k - 1 by omega]; exact hx1, ?_⟩
              refine callF_of (Tryz.c20p l u1 (by omega)) ?_
              simp only [evX, evY, evZ, forall_const, implies_true, initE, stepF, D.clean, mvF, moF, tkF, shF, ariF, ciF, catF, scF, ebF, eqF, eqOk, eqPr, enF, notF, ngF, cvF, csF, csbF, lenF, lenSF, ixF, iaF, PX.slot, iaAF, faF, ldF, D.mem, stF, bxF, mkSF, boundF, fldF, mmF2, D.plain, D.isPure, optAll, D.dull, callVF, splice, D.cells, D.one, sets, resT, D.flat, D.flat0, D.simple, Nat.reduceBNe, Nat.reduceLT, reduceIte, Nat.reduceEqDiff, Nat.reduceAdd, Nat.reduceMul, Nat.reduceSub, Nat.reduceLeDiff, Int.reduceToNat, Int.reduceLT, Int.reduceLE, Int.reduceEq, Int.reduceNeg, Int.reduceSub, Int.reduceAdd, Int.reduceMul, ldC_strs]
              refine ⟨fun c0 => ?_, fun c0 => ?_⟩
              · exact fin _ _ hW2.symm (by rw [hF2 k0, if_pos f0, if_pos c0])
              · exact fin _ _ hW2.symm (by rw [hF2 k0, if_pos f0, if_neg c0]; omega)
            · exact fin _ _ hW2.symm (by rw [hF2 k0, if_neg f0])
            · exact fin _ _ hW2.symm (hF0 k0).2.symm
          · rw [if_neg i0] at hW2
            simp only [i0, evX, evY, evZ, forall_const, implies_true, initE, stepF, D.clean, mvF, moF, tkF, shF, ariF, ciF, catF, scF, ebF, eqF, eqOk, eqPr, enF, notF, ngF, cvF, csF, csbF, lenF, lenSF, ixF, iaF, PX.slot, iaAF, faF, ldF, D.mem, stF, bxF, mkSF, boundF, fldF, mmF2, D.plain, D.isPure, optAll, D.dull, callVF, splice, D.cells, D.one, sets, resT, D.flat, D.flat0, D.simple, Nat.reduceBNe, Nat.reduceLT, reduceIte, Nat.reduceEqDiff, Nat.reduceAdd, Nat.reduceMul, Nat.reduceSub, Nat.reduceLeDiff, Int.reduceToNat, Int.reduceLT, Int.reduceLE, Int.reduceEq, Int.reduceNeg, Int.reduceSub, Int.reduceAdd, Int.reduceMul, ldC_strs, dfT_f]
            refine ⟨by omega, by omega, by omega, (strs_length us).symm, ?_⟩
            rw [cut_rows sD_len, List.drop_zero]
            have h39 : Con Tryz.prog Tryz.L 39 _ (.bool (has (us.take k) u)) := Tryz.c39 (us.take k) u (by rw [List.length_take]; omega)
            rw [show (us.take k).length = k by rw [List.length_take]; omega] at h39
            refine callF_of h39 ?_
            cases hh : has (us.take k) u with
            | true =>
              have hW2 := hW2.trans (if_pos hh)
              simp only [i0, evX, evY, evZ, forall_const, implies_true, initE, stepF, D.clean, mvF, moF, tkF, shF, ariF, ciF, catF, scF, ebF, eqF, eqOk, eqPr, enF, notF, ngF, cvF, csF, csbF, lenF, lenSF, ixF, iaF, PX.slot, iaAF, faF, ldF, D.mem, stF, bxF, mkSF, boundF, fldF, mmF2, D.plain, D.isPure, optAll, D.dull, callVF, splice, D.cells, D.one, sets, resT, D.flat, D.flat0, D.simple, Nat.reduceBNe, Nat.reduceLT, reduceIte, Nat.reduceEqDiff, Nat.reduceAdd, Nat.reduceMul, Nat.reduceSub, Nat.reduceLeDiff, Int.reduceToNat, Int.reduceLT, Int.reduceLE, Int.reduceEq, Int.reduceNeg, Int.reduceSub, Int.reduceAdd, Int.reduceMul, ldC_strs, dfT_f]
              refine ⟨fun k0 => ⟨fun f0 => ?_, fun f0 => ?_⟩, fun k0 => ?_⟩
              · refine callF_of (Tryz.c20p l u (by omega)) ?_
                simp only [evX, evY, evZ, forall_const, implies_true, initE, stepF, D.clean, mvF, moF, tkF, shF, ariF, ciF, catF, scF, ebF, eqF, eqOk, eqPr, enF, notF, ngF, cvF, csF, csbF, lenF, lenSF, ixF, iaF, PX.slot, iaAF, faF, ldF, D.mem, stF, bxF, mkSF, boundF, fldF, mmF2, D.plain, D.isPure, optAll, D.dull, callVF, splice, D.cells, D.one, sets, resT, D.flat, D.flat0, D.simple, Nat.reduceBNe, Nat.reduceLT, reduceIte, Nat.reduceEqDiff, Nat.reduceAdd, Nat.reduceMul, Nat.reduceSub, Nat.reduceLeDiff, Int.reduceToNat, Int.reduceLT, Int.reduceLE, Int.reduceEq, Int.reduceNeg, Int.reduceSub, Int.reduceAdd, Int.reduceMul, ldC_strs]
                refine ⟨by omega, ⟨by omega, by omega, by rw [strs_length]; omega⟩, u1, by rw [show ((k : Int) - 1).toNat = k - 1 by omega]; exact hx1, ?_⟩
                refine callF_of (Tryz.c20p l u1 (by omega)) ?_
                simp only [evX, evY, evZ, forall_const, implies_true, initE, stepF, D.clean, mvF, moF, tkF, shF, ariF, ciF, catF, scF, ebF, eqF, eqOk, eqPr, enF, notF, ngF, cvF, csF, csbF, lenF, lenSF, ixF, iaF, PX.slot, iaAF, faF, ldF, D.mem, stF, bxF, mkSF, boundF, fldF, mmF2, D.plain, D.isPure, optAll, D.dull, callVF, splice, D.cells, D.one, sets, resT, D.flat, D.flat0, D.simple, Nat.reduceBNe, Nat.reduceLT, reduceIte, Nat.reduceEqDiff, Nat.reduceAdd, Nat.reduceMul, Nat.reduceSub, Nat.reduceLeDiff, Int.reduceToNat, Int.reduceLT, Int.reduceLE, Int.reduceEq, Int.reduceNeg, Int.reduceSub, Int.reduceAdd, Int.reduceMul, ldC_strs]
                refine ⟨fun c0 => ?_, fun c0 => ?_⟩
                · exact fin _ _ hW2.symm (by rw [hF2 k0, if_pos f0, if_pos c0])
                · exact fin _ _ hW2.symm (by rw [hF2 k0, if_pos f0, if_neg c0]; omega)
              · exact fin _ _ hW2.symm (by rw [hF2 k0, if_neg f0])
              · exact fin _ _ hW2.symm (hF0 k0).2.symm
            | false =>
              have hW2 := hW2.trans (if_neg (show ¬has (us.take k) u = true by rw [hh]; decide))
              simp only [i0, evX, evY, evZ, forall_const, implies_true, initE, stepF, D.clean, mvF, moF, tkF, shF, ariF, ciF, catF, scF, ebF, eqF, eqOk, eqPr, enF, notF, ngF, cvF, csF, csbF, lenF, lenSF, ixF, iaF, PX.slot, iaAF, faF, ldF, D.mem, stF, bxF, mkSF, boundF, fldF, mmF2, D.plain, D.isPure, optAll, D.dull, callVF, splice, D.cells, D.one, sets, resT, D.flat, D.flat0, D.simple, Nat.reduceBNe, Nat.reduceLT, reduceIte, Nat.reduceEqDiff, Nat.reduceAdd, Nat.reduceMul, Nat.reduceSub, Nat.reduceLeDiff, Int.reduceToNat, Int.reduceLT, Int.reduceLE, Int.reduceEq, Int.reduceNeg, Int.reduceSub, Int.reduceAdd, Int.reduceMul, ldC_strs, dfT_f]
              refine ⟨fun k0 => ⟨fun f0 => ?_, fun f0 => ?_⟩, fun k0 => ?_⟩
              · refine callF_of (Tryz.c20p l u (by omega)) ?_
                simp only [evX, evY, evZ, forall_const, implies_true, initE, stepF, D.clean, mvF, moF, tkF, shF, ariF, ciF, catF, scF, ebF, eqF, eqOk, eqPr, enF, notF, ngF, cvF, csF, csbF, lenF, lenSF, ixF, iaF, PX.slot, iaAF, faF, ldF, D.mem, stF, bxF, mkSF, boundF, fldF, mmF2, D.plain, D.isPure, optAll, D.dull, callVF, splice, D.cells, D.one, sets, resT, D.flat, D.flat0, D.simple, Nat.reduceBNe, Nat.reduceLT, reduceIte, Nat.reduceEqDiff, Nat.reduceAdd, Nat.reduceMul, Nat.reduceSub, Nat.reduceLeDiff, Int.reduceToNat, Int.reduceLT, Int.reduceLE, Int.reduceEq, Int.reduceNeg, Int.reduceSub, Int.reduceAdd, Int.reduceMul, ldC_strs]
                refine ⟨by omega, ⟨by omega, by omega, by rw [strs_length]; omega⟩, u1, by rw [show ((k : Int) - 1).toNat = k - 1 by omega]; exact hx1, ?_⟩
                refine callF_of (Tryz.c20p l u1 (by omega)) ?_
                simp only [evX, evY, evZ, forall_const, implies_true, initE, stepF, D.clean, mvF, moF, tkF, shF, ariF, ciF, catF, scF, ebF, eqF, eqOk, eqPr, enF, notF, ngF, cvF, csF, csbF, lenF, lenSF, ixF, iaF, PX.slot, iaAF, faF, ldF, D.mem, stF, bxF, mkSF, boundF, fldF, mmF2, D.plain, D.isPure, optAll, D.dull, callVF, splice, D.cells, D.one, sets, resT, D.flat, D.flat0, D.simple, Nat.reduceBNe, Nat.reduceLT, reduceIte, Nat.reduceEqDiff, Nat.reduceAdd, Nat.reduceMul, Nat.reduceSub, Nat.reduceLeDiff, Int.reduceToNat, Int.reduceLT, Int.reduceLE, Int.reduceEq, Int.reduceNeg, Int.reduceSub, Int.reduceAdd, Int.reduceMul, ldC_strs]
                refine ⟨fun c0 => ?_, fun c0 => ?_⟩
                · exact fin _ _ hW2.symm (by rw [hF2 k0, if_pos f0, if_pos c0])
                · exact fin _ _ hW2.symm (by rw [hF2 k0, if_pos f0, if_neg c0]; omega)
              · exact fin _ _ hW2.symm (by rw [hF2 k0, if_neg f0])
              · exact fin _ _ hW2.symm (hF0 k0).2.symm
        · rw [if_neg hw] at hW2
          simp only [h1, hw, evX, evY, evZ, forall_const, implies_true, initE, stepF, D.clean, mvF, moF, tkF, shF, ariF, ciF, catF, scF, ebF, eqF, eqOk, eqPr, enF, notF, ngF, cvF, csF, csbF, lenF, lenSF, ixF, iaF, PX.slot, iaAF, faF, ldF, D.mem, stF, bxF, mkSF, boundF, fldF, mmF2, D.plain, D.isPure, optAll, D.dull, callVF, splice, D.cells, D.one, sets, resT, D.flat, D.flat0, D.simple, Nat.reduceBNe, Nat.reduceLT, reduceIte, Nat.reduceEqDiff, Nat.reduceAdd, Nat.reduceMul, Nat.reduceSub, Nat.reduceLeDiff, Int.reduceToNat, Int.reduceLT, Int.reduceLE, Int.reduceEq, Int.reduceNeg, Int.reduceSub, Int.reduceAdd, Int.reduceMul, ldC_strs, dfT_f]
          refine ⟨⟨by omega, by rw [strs_length]; omega⟩, u, hx, ?_⟩
          refine ⟨fun k0 => ⟨fun f0 => ?_, fun f0 => ?_⟩, fun k0 => ?_⟩
          · refine callF_of (Tryz.c20p l u (by omega)) ?_
            simp only [evX, evY, evZ, forall_const, implies_true, initE, stepF, D.clean, mvF, moF, tkF, shF, ariF, ciF, catF, scF, ebF, eqF, eqOk, eqPr, enF, notF, ngF, cvF, csF, csbF, lenF, lenSF, ixF, iaF, PX.slot, iaAF, faF, ldF, D.mem, stF, bxF, mkSF, boundF, fldF, mmF2, D.plain, D.isPure, optAll, D.dull, callVF, splice, D.cells, D.one, sets, resT, D.flat, D.flat0, D.simple, Nat.reduceBNe, Nat.reduceLT, reduceIte, Nat.reduceEqDiff, Nat.reduceAdd, Nat.reduceMul, Nat.reduceSub, Nat.reduceLeDiff, Int.reduceToNat, Int.reduceLT, Int.reduceLE, Int.reduceEq, Int.reduceNeg, Int.reduceSub, Int.reduceAdd, Int.reduceMul, ldC_strs]
            refine ⟨by omega, ⟨by omega, by omega, by rw [strs_length]; omega⟩, u1, by rw [show ((k : Int) - 1).toNat = k - 1 by omega]; exact hx1, ?_⟩
            refine callF_of (Tryz.c20p l u1 (by omega)) ?_
            simp only [evX, evY, evZ, forall_const, implies_true, initE, stepF, D.clean, mvF, moF, tkF, shF, ariF, ciF, catF, scF, ebF, eqF, eqOk, eqPr, enF, notF, ngF, cvF, csF, csbF, lenF, lenSF, ixF, iaF, PX.slot, iaAF, faF, ldF, D.mem, stF, bxF, mkSF, boundF, fldF, mmF2, D.plain, D.isPure, optAll, D.dull, callVF, splice, D.cells, D.one, sets, resT, D.flat, D.flat0, D.simple, Nat.reduceBNe, Nat.reduceLT, reduceIte, Nat.reduceEqDiff, Nat.reduceAdd, Nat.reduceMul, Nat.reduceSub, Nat.reduceLeDiff, Int.reduceToNat, Int.reduceLT, Int.reduceLE, Int.reduceEq, Int.reduceNeg, Int.reduceSub, Int.reduceAdd, Int.reduceMul, ldC_strs]
            refine ⟨fun c0 => ?_, fun c0 => ?_⟩
            · exact fin _ _ hW2.symm (by rw [hF2 k0, if_pos f0, if_pos c0])
            · exact fin _ _ hW2.symm (by rw [hF2 k0, if_pos f0, if_neg c0]; omega)
          · exact fin _ _ hW2.symm (by rw [hF2 k0, if_neg f0])
          · exact fin _ _ hW2.symm (hF0 k0).2.symm
end Go.Proofs
