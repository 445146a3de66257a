/-
  STEREONET: which numbers, nets and directions are right: the program's and the law's tests. Own work.
-/
import Derived.Test.YtidmnjnhccoblaaGreatDoorPj
import Derived.Test.YtidmnjnhccoblaaGreatDoorSf
import Derived.Test.YtidmnjnhccoblaaGreatDoorEc
import Derived.Shelf.Abstract
import Derived.WalkKit
import Derived.OwnWalkIn
import Derived.TacticsInMore
import Derived.LoopNIn
import Derived.LoopIn
import Derived.BigCall
import Derived.BigGuard
set_option linter.unusedVariables false
set_option linter.unusedSimpArgs false
namespace Go.Ar
/-- the first place with a property, from k on, or -1 -/
def ixA {α : Type} (p : α → Bool) : List α → Nat → Int
  | [], _ => -1
  | a :: l, k => if p a then (k : Int) else ixA p l (k + 1)
theorem ixA_any {α : Type} {p : α → Bool} : ∀ {l : List α} {k : Nat}, (0 ≤ ixA p l k) ↔ l.any p = true
  | [], k => by simp [ixA]
  | a :: l, k => by
    have ih := ixA_any (p := p) (l := l) (k := k + 1)
    simp only [ixA, List.any_cons, Bool.or_eq_true]
    split
    · rename_i h; exact ⟨fun _ => .inl h, fun _ => by omega⟩
    · rename_i h; rw [ih]; exact ⟨.inr, fun h2 => h2.resolve_left h⟩
end Go.Ar
namespace Go.Proofs
open Go Go.Pi Go.RowKit Go.Ar Go.Ne

theorem dropc {α : Type} {l : List α} {k : Nat} {x : α} (h : l[k]? = some x) : l.drop k = x :: l.drop (k + 1) := by
  obtain ⟨h1, rfl⟩ := List.getElem?_eq_some_iff.1 h
  exact List.drop_eq_getElem_cons h1
def szS (k : Nat) (v : S3) : Prop := v.1.length ≤ k ∧ v.2.1.length ≤ k ∧ v.2.2.length ≤ k
noncomputable def numE (l : List S3) : Int := chk (∀ v ∈ l, ok3 v)
def zerE (l : List S3) : Int := if l.any zS = true then 17 else 0
def netE (k R : Int) : Int := if k ≠ 1 ∧ k ≠ 2 then 12 else if R < 1 ∨ 1000 < R then 3 else 0
theorem Tryz.vnumbers (v : S3) (h : szS 1000000 v) : Con Tryz.prog Tryz.L 113 [.sl 3 (svD v)] (.int .i64 (chk (ok3 v))) := by
  obtain ⟨hx, hy, hz⟩ := h
  refine rule113 Tryz.hL rfl rfl rfl ?_
  simp only [svD, pc113, rs113, oU, oC, evX, evY, evZ, forall_const, implies_true, initE, stepF, D.clean, mvF, moF, tkF, shF, ariF, ciF, catF, scF, ebF, eqF, eqOk, eqPr, enF, notF, ngF, cvF, csF, csbF, lenF, lenSF, ixF, iaF, PX.slot, iaAF, faF, ldF, D.mem, stF, bxF, mkSF, boundF, fldF, ixAF, mmF2, D.plain, D.isPure, optAll, D.dull, callVF, splice, D.cells, D.one, sets, resT, D.flat, D.flat0, D.simple, Nat.reduceBNe, Nat.reduceLT, reduceIte, Nat.reduceEqDiff, Nat.reduceAdd, Nat.reduceMul, Nat.reduceSub, Nat.reduceLeDiff, Int.reduceToNat, Int.reduceLT, Int.reduceLE, Int.reduceEq, Int.reduceNeg, Int.reduceSub, Int.reduceAdd, Int.reduceMul, stG_own]
  refine loopF_of (fun E => ∃ k : Nat, k ≤ 3 ∧ (0 < k → okR v.1) ∧ (1 < k → okR v.2.1) ∧ (2 < k → okR v.2.2) ∧ E = [(6, .sl 3 [.str v.1, .str v.2.1, .str v.2.2]), (7, .int .i64 3), (8, .int .i64 k)])
    (fun E => match lk E 8 with | .int _ i => 3 - i.toNat | _ => 0) ⟨0, by omega, by omega, by omega, by omega, rfl⟩ ?_
  rintro _ ⟨k, hk, h0, h1, h2, rfl⟩
  obtain rfl | rfl | rfl | rfl : k = 0 ∨ k = 1 ∨ k = 2 ∨ k = 3 := by omega
  · (refine ev ?_; try with_reducible exact trivial)
    refine ⟨fun _ => ⟨⟨by decide, by decide⟩, ?_⟩, fun h => absurd (by decide) h⟩
    refine callF_of (Tryz.rcheck v.1 hx) ?_
    (refine ev ?_; try with_reducible exact trivial)
    refine ⟨fun h => ?_, fun h => ⟨⟨by decide, by decide⟩, ⟨1, by omega, fun _ => chk_0.1 (Classical.not_not.1 h), by omega, by omega, rfl⟩, by decide⟩⟩
    rw [chk_f (fun hh : ok3 v => h (chk_0.2 hh.1))]
    exact chk_f (fun hh => h (chk_0.2 hh))
  · (refine ev ?_; try with_reducible exact trivial)
    refine ⟨fun _ => ⟨⟨by decide, by decide⟩, ?_⟩, fun h => absurd (by decide) h⟩
    refine callF_of (Tryz.rcheck v.2.1 hy) ?_
    (refine ev ?_; try with_reducible exact trivial)
    refine ⟨fun h => ?_, fun h => ⟨⟨by decide, by decide⟩, ⟨2, by omega, fun _ => h0 (by omega), fun _ => chk_0.1 (Classical.not_not.1 h), by omega, rfl⟩, by decide⟩⟩
    rw [chk_f (fun hh : ok3 v => h (chk_0.2 hh.2.1))]
    exact chk_f (fun hh => h (chk_0.2 hh))
  · (refine ev ?_; try with_reducible exact trivial)
    refine ⟨fun _ => ⟨⟨by decide, by decide⟩, ?_⟩, fun h => absurd (by decide) h⟩
    refine callF_of (Tryz.rcheck v.2.2 hz) ?_
    (refine ev ?_; try with_reducible exact trivial)
    refine ⟨fun h => ?_, fun h => ⟨⟨by decide, by decide⟩, ⟨3, by omega, fun _ => h0 (by omega), fun _ => h1 (by omega), fun _ => chk_0.1 (Classical.not_not.1 h), rfl⟩, by decide⟩⟩
    rw [chk_f (fun hh : ok3 v => h (chk_0.2 hh.2.2))]
    exact chk_f (fun hh => h (chk_0.2 hh))
  · (refine ev ?_; try with_reducible exact trivial)
    rw [chk_t (show ok3 v from ⟨h0 (by omega), h1 (by omega), h2 (by omega)⟩)]
    exact ⟨fun h => absurd h (by decide), fun _ => rfl⟩
theorem Tryz.vcheck (v : S3) (h : szS 1000000 v) : Con Tryz.prog Tryz.L 78 [.agg (svD v)] (.int .i64 (chk (ok3 v))) := by
  have hn := Tryz.vnumbers v h
  refine rule78 Tryz.hL rfl rfl rfl ?_
  simp only [svD, pc78, rs78, oU, oC, evX, evY, evZ, forall_const, implies_true, initE, stepF, D.clean, mvF, moF, tkF, shF, ariF, ciF, catF, scF, ebF, eqF, eqOk, eqPr, enF, notF, ngF, cvF, csF, csbF, lenF, lenSF, ixF, iaF, PX.slot, iaAF, faF, ldF, D.mem, stF, bxF, mkSF, boundF, fldF, ixAF, mmF2, D.plain, D.isPure, optAll, D.dull, callVF, splice, D.cells, D.one, sets, resT, D.flat, D.flat0, D.simple, Nat.reduceBNe, Nat.reduceLT, reduceIte, Nat.reduceEqDiff, Nat.reduceAdd, Nat.reduceMul, Nat.reduceSub, Nat.reduceLeDiff, Int.reduceToNat, Int.reduceLT, Int.reduceLE, Int.reduceEq, Int.reduceNeg, Int.reduceSub, Int.reduceAdd, Int.reduceMul, stG_own] at hn ⊢
  refine callF_of hn ?_
  (refine ev ?_; try with_reducible exact trivial)
set_option maxHeartbeats 4000000 in
theorem Tryz.snumbers (l : List S3) (hl : l.length ≤ 1000) (h : ∀ v ∈ l, szS 1000000 v) : Con Tryz.prog Tryz.L 46 [lS l] (.int .i64 (numE l)) := by
  refine rule46 Tryz.hL rfl rfl rfl ?_
  (simp only [pc46, rs46, oU, oC]; refine ev ?_; try with_reducible exact trivial)
  refine loopF_of (fun E => ∃ k : Nat, k ≤ l.length ∧ (∀ j v, j < k → l[j]? = some v → ok3 v) ∧ E = [(6, lS l), (7, .int .i64 l.length), (8, .int .i64 k)])
    (fun E => match lk E 8 with | .int _ i => l.length - i.toNat | _ => 0) ⟨0, by omega, fun j v hj => by omega, rfl⟩ ?_
  rintro _ ⟨k, hk, hno, rfl⟩
  simp only [evX, evY, evZ, forall_const, implies_true, initE, stepF, D.clean, mvF, moF, tkF, shF, ariF, ciF, catF, scF, ebF, eqF, eqOk, eqPr, enF, notF, ngF, cvF, csF, csbF, lenF, lenSF, ixF, iaF, PX.slot, iaAF, faF, ldF, D.mem, stF, bxF, mkSF, boundF, fldF, ixAF, mmF2, D.plain, D.isPure, optAll, D.dull, callVF, splice, D.cells, D.one, sets, resT, D.flat, D.flat0, D.simple, Nat.reduceBNe, Nat.reduceLT, reduceIte, Nat.reduceEqDiff, Nat.reduceAdd, Nat.reduceMul, Nat.reduceSub, Nat.reduceLeDiff, Int.reduceToNat, Int.reduceLT, Int.reduceLE, Int.reduceEq, Int.reduceNeg, Int.reduceSub, Int.reduceAdd, Int.reduceMul, stG_own, ldC_svs]
  refine ⟨fun h1 => ?_, fun h1 => ?_⟩
  · have hx : l[k]? = some (l[k]'(by omega)) := List.getElem?_eq_getElem (by omega)
    generalize l[k]'(by omega) = x at hx
    have hmx := List.mem_of_getElem? hx
    refine ⟨⟨by omega, by omega, by rw [svs_len]; omega⟩, x, hx, ?_⟩
    have hc := Tryz.vcheck x (h x hmx)
    simp only [svD, evX, evY, evZ, forall_const, implies_true, initE, stepF, D.clean, mvF, moF, tkF, shF, ariF, ciF, catF, scF, ebF, eqF, eqOk, eqPr, enF, notF, ngF, cvF, csF, csbF, lenF, lenSF, ixF, iaF, PX.slot, iaAF, faF, ldF, D.mem, stF, bxF, mkSF, boundF, fldF, ixAF, mmF2, D.plain, D.isPure, optAll, D.dull, callVF, splice, D.cells, D.one, sets, resT, D.flat, D.flat0, D.simple, Nat.reduceBNe, Nat.reduceLT, reduceIte, Nat.reduceEqDiff, Nat.reduceAdd, Nat.reduceMul, Nat.reduceSub, Nat.reduceLeDiff, Int.reduceToNat, Int.reduceLT, Int.reduceLE, Int.reduceEq, Int.reduceNeg, Int.reduceSub, Int.reduceAdd, Int.reduceMul, stG_own] at hc ⊢
    refine callF_of hc ?_
    (refine ev ?_; try with_reducible exact trivial)
    refine ⟨fun h2 => ?_, fun h2 => ⟨by omega, ⟨k + 1, by omega, fun j v hj hv => ?_, rfl⟩, by omega⟩⟩
    · have hb : ¬ok3 x := fun hh => h2 (chk_0.2 hh)
      rw [chk_f hb, numE, chk_f (fun hh => hb (hh x hmx))]
    · by_cases e : j = k
      · rw [e, hx] at hv; cases hv; exact chk_0.1 (Classical.not_not.1 h2)
      · exact hno j v (by omega) hv
  · rw [numE, chk_t]
    intro v hv
    obtain ⟨j, hj, e⟩ := List.getElem_of_mem hv
    exact hno j v (by omega) (by rw [List.getElem?_eq_getElem hj, e])
set_option maxHeartbeats 4000000 in
theorem Tryz.vindex {f : Nat} {caps : List D} (p : S3 → Bool) (l : List S3) (hl : l.length ≤ 1000) (h : ∀ x ∈ l, Con Tryz.prog Tryz.L f ([.agg (svD x)] ++ caps) (.bool (p x))) :
    Con Tryz.prog Tryz.L 72 [lS l, .clo f caps] (.int .i64 (ixA p l 0)) := by
  refine rule72 Tryz.hL rfl rfl rfl ?_
  (simp only [pc72, rs72, oU, oC]; refine ev ?_; try with_reducible exact trivial)
  refine loopF_of (fun E => ∃ k : Nat, k ≤ l.length ∧ ixA p l 0 = ixA p (l.drop k) k ∧ E = [(0, lS l), (1, .clo f caps), (7, .int .i64 l.length), (8, .int .i64 k)])
    (fun E => match lk E 8 with | .int _ i => l.length - i.toNat | _ => 0) ⟨0, Nat.zero_le _, rfl, rfl⟩ ?_
  rintro _ ⟨k, hk, hi, rfl⟩
  simp only [evX, evY, evZ, forall_const, implies_true, initE, stepF, D.clean, mvF, moF, tkF, shF, ariF, ciF, catF, scF, ebF, eqF, eqOk, eqPr, enF, notF, ngF, cvF, csF, csbF, lenF, lenSF, ixF, iaF, PX.slot, iaAF, faF, ldF, D.mem, stF, bxF, mkSF, boundF, fldF, ixAF, mmF2, D.plain, D.isPure, optAll, D.dull, callVF, splice, D.cells, D.one, sets, resT, D.flat, D.flat0, D.simple, Nat.reduceBNe, Nat.reduceLT, reduceIte, Nat.reduceEqDiff, Nat.reduceAdd, Nat.reduceMul, Nat.reduceSub, Nat.reduceLeDiff, Int.reduceToNat, Int.reduceLT, Int.reduceLE, Int.reduceEq, Int.reduceNeg, Int.reduceSub, Int.reduceAdd, Int.reduceMul, stG_own, ldC_svs]
  refine ⟨fun h1 => ?_, fun h1 => ?_⟩
  · have hx : l[k]? = some (l[k]'(by omega)) := List.getElem?_eq_getElem (by omega)
    generalize l[k]'(by omega) = x at hx
    have hd := dropc hx
    refine ⟨⟨by omega, by omega, by rw [svs_len]; omega⟩, x, hx, ?_⟩
    refine callF_of (h x (List.mem_of_getElem? hx)) ?_
    (refine ev ?_; try with_reducible exact trivial)
    rw [hd] at hi
    simp only [ixA] at hi
    cases hp : p x with
    | true =>
      (refine ev ?_; try with_reducible exact trivial)
      rw [hi, hp]; rfl
    | false =>
      (refine ev ?_; try with_reducible exact trivial)
      have hi2 : ixA p l 0 = ixA p (l.drop (k + 1)) (k + 1) := by rw [hi, hp]; rfl
      refine ⟨by omega, ⟨k + 1, by omega, hi2, rfl⟩, by omega⟩
  · have : k = l.length := by omega
    subst this
    rw [hi]; simp [ixA]
theorem Tryz.vcontains {f : Nat} {caps : List D} (p : S3 → Bool) (l : List S3) (hl : l.length ≤ 1000) (h : ∀ x ∈ l, Con Tryz.prog Tryz.L f ([.agg (svD x)] ++ caps) (.bool (p x))) :
    Con Tryz.prog Tryz.L 38 [lS l, .clo f caps] (.bool (l.any p)) := by
  refine rule38 Tryz.hL rfl rfl rfl ?_
  (simp only [pc38, rs38, oU, oC]; refine ev ?_; try with_reducible exact trivial)
  refine callF_of (Tryz.vindex p l hl h) ?_
  (refine ev ?_; try with_reducible exact trivial)
  rw [show dB (0 ≤ ixA p l 0) = l.any p by
    cases h2 : l.any p with
    | true => exact dB_iff.2 (ixA_any.2 h2)
    | false => exact dB_not.2 (fun h3 => by rw [ixA_any.1 h3] at h2; cases h2)]
theorem zS_dB (v : S3) : zS v = dB (v.1 = [48] ∧ v.2.1 = [48] ∧ v.2.2 = [48]) := by
  unfold zS
  rw [dB_dec]
  congr 1
  exact propext ⟨fun h => by rw [h]; exact ⟨rfl, rfl, rfl⟩, fun h => Prod.ext h.1 (Prod.ext h.2.1 h.2.2)⟩
theorem Tryz.szero (v : S3) : Con Tryz.prog Tryz.L 48 [.agg (svD v)] (.bool (zS v)) := by
  refine rule48 Tryz.hL rfl rfl rfl ?_
  simp only [svD, pc48, rs48, oU, oC, evX, evY, evZ, forall_const, implies_true, initE, stepF, D.clean, mvF, moF, tkF, shF, ariF, ciF, catF, scF, ebF, eqF, eqOk, eqPr, enF, notF, ngF, cvF, csF, csbF, lenF, lenSF, ixF, iaF, PX.slot, iaAF, faF, ldF, D.mem, stF, bxF, mkSF, boundF, fldF, ixAF, mmF2, D.plain, D.isPure, optAll, D.dull, callVF, splice, D.cells, D.one, sets, resT, D.flat, D.flat0, D.simple, Nat.reduceBNe, Nat.reduceLT, reduceIte, Nat.reduceEqDiff, Nat.reduceAdd, Nat.reduceMul, Nat.reduceSub, Nat.reduceLeDiff, Int.reduceToNat, Int.reduceLT, Int.reduceLE, Int.reduceEq, Int.reduceNeg, Int.reduceSub, Int.reduceAdd, Int.reduceMul, stG_own]
  rw [zS_dB]
  exact ⟨fun a => ⟨fun b => dB_congr ⟨fun c => ⟨a, b, c⟩, fun h => h.2.2⟩, fun b => (dB_not.2 (fun h => b h.2.1)).symm⟩, fun a => (dB_not.2 (fun h => a h.1)).symm⟩
theorem Tryz.kzero (v : S3) : Con Tryz.prog Tryz.L 18 [.agg (svD v)] (.bool (zS v)) := by
  refine rule18 Tryz.hL rfl rfl rfl ?_
  simp only [svD, pc18, rs18, oU, oC, evX, evY, evZ, forall_const, implies_true, initE, stepF, D.clean, mvF, moF, tkF, shF, ariF, ciF, catF, scF, ebF, eqF, eqOk, eqPr, enF, notF, ngF, cvF, csF, csbF, lenF, lenSF, ixF, iaF, PX.slot, iaAF, faF, ldF, D.mem, stF, bxF, mkSF, boundF, fldF, ixAF, mmF2, D.plain, D.isPure, optAll, D.dull, callVF, splice, D.cells, D.one, sets, resT, D.flat, D.flat0, D.simple, Nat.reduceBNe, Nat.reduceLT, reduceIte, Nat.reduceEqDiff, Nat.reduceAdd, Nat.reduceMul, Nat.reduceSub, Nat.reduceLeDiff, Int.reduceToNat, Int.reduceLT, Int.reduceLE, Int.reduceEq, Int.reduceNeg, Int.reduceSub, Int.reduceAdd, Int.reduceMul, stG_own]
  rw [zS_dB]
  exact ⟨fun a => ⟨fun b => dB_congr ⟨fun c => ⟨a, b, c⟩, fun h => h.2.2⟩, fun b => (dB_not.2 (fun h => b h.2.1)).symm⟩, fun a => (dB_not.2 (fun h => a h.1)).symm⟩
theorem Tryz.szeros (l : List S3) (hl : l.length ≤ 1000) : Con Tryz.prog Tryz.L 41 [lS l] (.int .i64 (zerE l)) := by
  refine rule41 Tryz.hL rfl rfl rfl ?_
  (simp only [pc41, rs41, oU, oC]; refine ev ?_; try with_reducible exact trivial)
  refine callF_of (Tryz.vcontains (caps := []) zS l hl (fun x _ => Tryz.szero x)) ?_
  (refine ev ?_; try with_reducible exact trivial)
  unfold zerE
  cases l.any zS <;> (refine ev ?_; try with_reducible exact trivial) <;> first | rfl | trivial | simp
theorem Tryz.snet (k R : Int) : Con Tryz.prog Tryz.L 73 [netD k R] (.int .i64 (netE k R)) := by
  refine rule73 Tryz.hL rfl rfl rfl ?_
  simp only [netD, pc73, rs73, oU, oC, evX, evY, evZ, forall_const, implies_true, initE, stepF, D.clean, mvF, moF, tkF, shF, ariF, ciF, catF, scF, ebF, eqF, eqOk, eqPr, enF, notF, ngF, cvF, csF, csbF, lenF, lenSF, ixF, iaF, PX.slot, iaAF, faF, ldF, D.mem, stF, bxF, mkSF, boundF, fldF, ixAF, mmF2, D.plain, D.isPure, optAll, D.dull, callVF, splice, D.cells, D.one, sets, resT, D.flat, D.flat0, D.simple, Nat.reduceBNe, Nat.reduceLT, reduceIte, Nat.reduceEqDiff, Nat.reduceAdd, Nat.reduceMul, Nat.reduceSub, Nat.reduceLeDiff, Int.reduceToNat, Int.reduceLT, Int.reduceLE, Int.reduceEq, Int.reduceNeg, Int.reduceSub, Int.reduceAdd, Int.reduceMul, stG_own]
  by_cases a : k = 1 <;> by_cases b : k = 2 <;> by_cases c : R < 1 <;> by_cases d : 1000 < R <;> simp [netE, a, b, c, d] <;> omega
theorem Tryz.sopen (k R : Int) (l : List S3) (hl : l.length ≤ 1000) (h : ∀ v ∈ l, szS 1000000 v) : Con Tryz.prog Tryz.L 40 [netD k R, lS l] (.int .i64 (if numE l ≠ 0 then numE l else netE k R)) := by
  have hnet := Tryz.snet k R
  refine rule40 Tryz.hL rfl rfl rfl ?_
  simp only [netD, pc40, rs40, oU, oC, evX, evY, evZ, forall_const, implies_true, initE, stepF, D.clean, mvF, moF, tkF, shF, ariF, ciF, catF, scF, ebF, eqF, eqOk, eqPr, enF, notF, ngF, cvF, csF, csbF, lenF, lenSF, ixF, iaF, PX.slot, iaAF, faF, ldF, D.mem, stF, bxF, mkSF, boundF, fldF, ixAF, mmF2, D.plain, D.isPure, optAll, D.dull, callVF, splice, D.cells, D.one, sets, resT, D.flat, D.flat0, D.simple, Nat.reduceBNe, Nat.reduceLT, reduceIte, Nat.reduceEqDiff, Nat.reduceAdd, Nat.reduceMul, Nat.reduceSub, Nat.reduceLeDiff, Int.reduceToNat, Int.reduceLT, Int.reduceLE, Int.reduceEq, Int.reduceNeg, Int.reduceSub, Int.reduceAdd, Int.reduceMul, stG_own] at hnet ⊢
  refine callF_of (Tryz.snumbers l hl h) ?_
  (refine ev ?_; try with_reducible exact trivial)
  refine ⟨fun h1 => by rw [if_pos h1], fun h1 => ?_⟩
  rw [if_neg h1]
  refine callF_of hnet ?_
  (refine ev ?_; try with_reducible exact trivial)
end Go.Proofs

/-
  STEREONET: the program's reaches, round, pixel. Own work.
-/
namespace Go.Proofs
open Go Go.Pi Go.RowKit Go.Ar Go.Ne

def areaB (k : Int) : Bool := decide (k ≠ 1)
theorem rd_nat {R k : Nat} (hk : 0 < k) (h : R < 10 ^ k) : rd (R : Rat) ≤ k := by
  have := rd_int (z := (R : Int)) hk (by rw [Int.natAbs_natCast]; exact h)
  rwa [Rat.intCast_natCast] at this
set_option maxHeartbeats 4000000 in
theorem Tryz.sreaches (k : Int) (R : Nat) (hR : R ≤ 1000) (x : Rat) (v : V3) (h : Rat) (hx : rd x ≤ 200) (hv : Sz3 200 v) (hh : rd h ≤ 10) :
    Con Tryz.prog Tryz.L 111 [netD k R, .str (rt x), .agg (svD (tx3 v)), .str (rt h)] (.bool (reachP (areaB k) R x v.2.2 (dot3 v v) h)) := by
  have rR : rd (R : Rat) ≤ 4 := rd_nat (by decide) (by omega)
  have cw := Tryz.rwhole (R : Int) (by rw [inR_i64]; omega)
  rw [Rat.intCast_natCast] at cw
  have cd := Tryz.sdot v v (hv.more (by decide)) (hv.more (by decide))
  have ds := sz_dot hv hv
  obtain ⟨v1, v2, v3⟩ := hv
  have e1 := rd_mul x R
  have e2 := rd_mul h v.2.2
  have e3 := rd_add (x * R) (h * v.2.2)
  have e4 := rd_mul (x * R) (x * R)
  have e5 := rd_mul h h
  have e6 := rd_mul (h * h) (dot3 v v)
  have e7 := rd_sub (x * R * (x * R)) (h * h * dot3 v v)
  have e8 := rd_mul (h * h) v.2.2
  have p1 := sgn_nonneg (x * R)
  have p2 := sgn_nonneg h
  refine rule111 Tryz.hL rfl rfl rfl ?_
  have hv3 : tx3 v = (rt v.1, rt v.2.1, rt v.2.2) := rfl
  simp only [netD, svD, hv3, pc111, rs111, oU, oC, evX, evY, evZ, forall_const, implies_true, initE, stepF, D.clean, mvF, moF, tkF, shF, ariF, ciF, catF, scF, ebF, eqF, eqOk, eqPr, enF, notF, ngF, cvF, csF, csbF, lenF, lenSF, ixF, iaF, PX.slot, iaAF, faF, ldF, D.mem, stF, bxF, mkSF, boundF, fldF, ixAF, mmF2, D.plain, D.isPure, optAll, D.dull, callVF, splice, D.cells, D.one, sets, resT, D.flat, D.flat0, D.simple, Nat.reduceBNe, Nat.reduceLT, reduceIte, Nat.reduceEqDiff, Nat.reduceAdd, Nat.reduceMul, Nat.reduceSub, Nat.reduceLeDiff, Int.reduceToNat, Int.reduceLT, Int.reduceLE, Int.reduceEq, Int.reduceNeg, Int.reduceSub, Int.reduceAdd, Int.reduceMul, stG_own] at cd ⊢
  generalize hs : dot3 v v = s at *
  refine callF_of cw ?_
  (refine ev ?_; try with_reducible exact trivial)
  refine callF_of (Tryz.rmul x R (by omega) (by omega)) ?_
  (refine ev ?_; try with_reducible exact trivial)
  refine callF_of cd ?_
  (refine ev ?_; try with_reducible exact trivial)
  unfold reachP areaB
  refine ⟨fun hk => ?_, fun hk => ?_⟩
  · refine callF_of (Tryz.rmul h v.2.2 (by omega) (by omega)) ?_
    (refine ev ?_; try with_reducible exact trivial)
    refine callF_of (Tryz.radd (x * R) (h * v.2.2) (by omega) (by omega)) ?_
    (refine ev ?_; try with_reducible exact trivial)
    refine callF_of (Tryz.satLeast (x * R + h * v.2.2) h s (by omega) (by omega) (by omega)) ?_
    (refine ev ?_; try with_reducible exact trivial)
    rw [hk]; simp
  · rw [show decide (k ≠ 1) = true from decide_eq_true hk, if_pos rfl]
    refine callF_of (Tryz.rmul (x * R) (x * R) (by omega) (by omega)) ?_
    (refine ev ?_; try with_reducible exact trivial)
    refine callF_of (Tryz.rmul h h (by omega) (by omega)) ?_
    (refine ev ?_; try with_reducible exact trivial)
    refine callF_of (Tryz.rmul (h * h) s (by omega) (by omega)) ?_
    (refine ev ?_; try with_reducible exact trivial)
    refine callF_of (Tryz.rsub (x * R * (x * R)) (h * h * s) (by omega) (by omega)) ?_
    (refine ev ?_; try with_reducible exact trivial)
    refine callF_of (Tryz.rmul h h (by omega) (by omega)) ?_
    (refine ev ?_; try with_reducible exact trivial)
    refine callF_of (Tryz.rmul (h * h) v.2.2 (by omega) (by omega)) ?_
    (refine ev ?_; try with_reducible exact trivial)
    refine callF_of (Tryz.rneg (h * h * v.2.2) (by omega)) ?_
    (refine ev ?_; try with_reducible exact trivial)
    refine callF_of (Tryz.rsign h (by omega)) ?_
    (refine ev ?_; try with_reducible exact trivial)
    refine ⟨fun h1 => ?_, fun h1 => ?_⟩
    · rw [if_pos (p2.1 h1)]
      refine callF_of (Tryz.rsign (x * R) (by omega)) ?_
      (refine ev ?_; try with_reducible exact trivial)
      refine ⟨fun h2 => ?_, fun h2 => ?_⟩
      · refine callF_of (Tryz.satLeast (x * R * (x * R) - h * h * s) (-(h * h * v.2.2)) s (by omega) (by rw [rd_neg]; omega) (by omega)) ?_
        (refine ev ?_; try with_reducible exact trivial)
        rw [decide_eq_true (p1.1 h2), Bool.true_and]
      · rw [decide_eq_false (fun hh => h2 (p1.2 hh)), Bool.false_and]
    · rw [if_neg (fun hh => h1 (p2.2 hh))]
      refine callF_of (Tryz.rsign (x * R) (by omega)) ?_
      (refine ev ?_; try with_reducible exact trivial)
      refine ⟨fun h2 => ?_, fun h2 => ?_⟩
      · refine callF_of (Tryz.rneg (x * R * (x * R) - h * h * s) (by omega)) ?_
        (refine ev ?_; try with_reducible exact trivial)
        refine callF_of (Tryz.rneg (-(h * h * v.2.2)) (by rw [rd_neg]; omega)) ?_
        (refine ev ?_; try with_reducible exact trivial)
        refine callF_of (Tryz.satLeast (-(x * R * (x * R) - h * h * s)) (-(-(h * h * v.2.2))) s (by rw [rd_neg]; omega) (by rw [rd_neg, rd_neg]; omega) (by omega)) ?_
        (refine ev ?_; try with_reducible exact trivial)
        rw [decide_eq_false (fun hh => h2 (p1.2 hh)), Bool.false_or]
      · rw [decide_eq_true (p1.1 h2), Bool.true_or]
end Go.Proofs

/-
  STEREONET: the program's round and pixel. Own work.
-/
namespace Go.Proofs
open Go Go.Pi Go.RowKit Go.Ar Go.Ne

theorem rd_half {n : Int} (h : n.natAbs < 10000) : rd (mkRat n 2) ≤ 5 := by
  have e : mkRat n 2 = (n : Rat) * mkRat 1 2 := by rw [Rat.mkRat_eq_div, Rat.mkRat_eq_div]; grind
  have h1 : rd (n : Rat) ≤ 4 := rd_int (by decide) h
  have h2 : rd (mkRat 1 2) ≤ 1 := by decide +kernel
  have := rd_mul (n : Rat) (mkRat 1 2)
  rw [e]; omega
theorem two_half (n : Int) : 2 * mkRat n 2 = (n : Rat) := by rw [Rat.mkRat_eq_div]; grind
set_option maxHeartbeats 4000000 in
theorem Tryz.sround (k : Int) (R : Nat) (h1 : 1 ≤ R) (hR : R ≤ 1000) (x : Rat) (v : V3) (hx : rd x ≤ 200) (hv : Sz3 200 v) (hc : x * x ≤ dot3 v v) (hz : 0 ≤ -v.2.2) :
    Con Tryz.prog Tryz.L 74 [netD k R, .str (rt x), .agg (svD (tx3 v))] (.int .i64 (pix (areaB k) R x (-v.2.2) (dot3 v v))) := by
  have hge := pix_ge (area := areaB k) (R := R) (c := x) (d := -v.2.2) (s := dot3 v v)
  have hiff : ∀ m : Int, -(R : Int) ≤ m → m ≤ R → (hit (areaB k) R x (-v.2.2) (dot3 v v) ((2 * m - 1 : Int) : Rat) ↔ m ≤ pix (areaB k) R x (-v.2.2) (dot3 v v)) := fun m a b => pix_iff hc hz a b
  have hRp : (0 : Rat) < R := by have := Rat.natCast_pos.2 h1; exact this
  have hre := fun h (hh : rd h ≤ 10) => Tryz.sreaches k R hR x v h hx hv hh
  simp only [reachP_hit hRp] at hre
  generalize pix (areaB k) R x (-v.2.2) (dot3 v v) = p at *
  refine rule74 Tryz.hL rfl rfl rfl ?_
  simp only [netD, svD, pc74, rs74, oU, oC, evX, evY, evZ, forall_const, implies_true, initE, stepF, D.clean, mvF, moF, tkF, shF, ariF, ciF, catF, scF, ebF, eqF, eqOk, eqPr, enF, notF, ngF, cvF, csF, csbF, lenF, lenSF, ixF, iaF, PX.slot, iaAF, faF, ldF, D.mem, stF, bxF, mkSF, boundF, fldF, ixAF, mmF2, D.plain, D.isPure, optAll, D.dull, callVF, splice, D.cells, D.one, sets, resT, D.flat, D.flat0, D.simple, Nat.reduceBNe, Nat.reduceLT, reduceIte, Nat.reduceEqDiff, Nat.reduceAdd, Nat.reduceMul, Nat.reduceSub, Nat.reduceLeDiff, Int.reduceToNat, Int.reduceLT, Int.reduceLE, Int.reduceEq, Int.reduceNeg, Int.reduceSub, Int.reduceAdd, Int.reduceMul, stG_own] at hre ⊢
  refine ⟨by omega, ?_⟩
  refine loopF_of (fun E => ∃ lo hi : Int, -(R : Int) ≤ lo ∧ hi ≤ R ∧ lo ≤ p ∧ p ≤ hi ∧ E = [(1, .str (rt x)), (3, .box true [.int .i64 k, .int .i64 R]), (5, .box true [.str (tx3 v).1, .str (tx3 v).2.1, .str (tx3 v).2.2]), (7, .int .i64 lo), (8, .int .i64 hi)])
    (fun E => match lk E 7, lk E 8 with | .int _ a, .int _ b => (b - a).toNat | _, _ => 0) ⟨0 - R, R, by omega, by omega, by omega, by omega, rfl⟩ ?_
  rintro _ ⟨lo, hi, q1, q2, q3, q4, rfl⟩
  (refine ev ?_; try with_reducible exact trivial)
  refine ⟨fun h => ?_, fun h => by rw [show lo = p by omega]⟩
  have htd : (hi - lo + 1).tdiv 2 = (hi - lo + 1) / 2 := Int.tdiv_eq_ediv_of_nonneg (by omega)
  rw [htd]
  obtain ⟨m, hm⟩ : ∃ m, m = lo + (hi - lo + 1) / 2 := ⟨_, rfl⟩
  have hm1 : lo < m ∧ m ≤ hi := by omega
  refine ⟨by omega, by omega, by omega, by omega, by omega, by omega, ?_⟩
  rw [← hm]
  refine callF_of (Tryz.rof (2 * m - 1) 2 (by decide) (by rw [inR_i64]; omega) (by rw [inR_i64]; omega)) ?_
  (refine ev ?_; try with_reducible exact trivial)
  have hr := hre (mkRat (2 * m - 1) 2) (by have := rd_half (n := 2 * m - 1) (by omega); omega)
  rw [two_half] at hr
  have hf := hiff m (by omega) (by omega)
  clear hiff hre
  refine callF_of hr ?_
  by_cases hh : hit (areaB k) R x (-v.2.2) (dot3 v v) ((2 * m - 1 : Int) : Rat)
  · rw [decide_eq_true hh]
    (refine ev ?_; try with_reducible exact trivial)
    exact ⟨⟨m, hi, by omega, by omega, hf.1 hh, by omega, rfl, rfl⟩, by omega⟩
  · rw [decide_eq_false hh]
    (refine ev ?_; try with_reducible exact trivial)
    exact ⟨by omega, ⟨lo, m - 1, by omega, by omega, by omega, (by have : ¬m ≤ p := fun hq => hh (hf.2 hq); omega), rfl, rfl⟩, by omega⟩
def pxD (p : Int × Int) : D := .agg [.int .i64 p.1, .int .i64 p.2]
set_option maxHeartbeats 4000000 in
theorem Tryz.spixel (k : Int) (R : Nat) (h1 : 1 ≤ R) (hR : R ≤ 1000) (v : V3) (hv : Sz3 200 v) :
    Con Tryz.prog Tryz.L 42 [netD k R, .agg (svD (tx3 v))] (pxD (pixV (areaB k) R v)) := by
  have hlw := Tryz.slower v (hv.more (by decide))
  have hl := sz_low hv
  have hz := low_z v
  have hr1 := Tryz.sround k R h1 hR (low3 v).1 (low3 v) hl.1 hl (dot_ge1 _) hz
  have hr2 := Tryz.sround k R h1 hR (low3 v).2.1 (low3 v) hl.2.1 hl (dot_ge2 _) hz
  refine rule42 Tryz.hL rfl rfl rfl ?_
  unfold pixV
  generalize low3 v = w at *
  generalize pix (areaB k) R w.1 (-w.2.2) (dot3 w w) = a at *
  generalize pix (areaB k) R w.2.1 (-w.2.2) (dot3 w w) = b at *
  have hw : ∀ v : V3, tx3 v = (rt v.1, rt v.2.1, rt v.2.2) := fun _ => rfl
  simp only [pxD, netD, svD, hw, pc42, rs42, oU, oC, evX, evY, evZ, forall_const, implies_true, initE, stepF, D.clean, mvF, moF, tkF, shF, ariF, ciF, catF, scF, ebF, eqF, eqOk, eqPr, enF, notF, ngF, cvF, csF, csbF, lenF, lenSF, ixF, iaF, PX.slot, iaAF, faF, ldF, D.mem, stF, bxF, mkSF, boundF, fldF, ixAF, mmF2, D.plain, D.isPure, optAll, D.dull, callVF, splice, D.cells, D.one, sets, resT, D.flat, D.flat0, D.simple, Nat.reduceBNe, Nat.reduceLT, reduceIte, Nat.reduceEqDiff, Nat.reduceAdd, Nat.reduceMul, Nat.reduceSub, Nat.reduceLeDiff, Int.reduceToNat, Int.reduceLT, Int.reduceLE, Int.reduceEq, Int.reduceNeg, Int.reduceSub, Int.reduceAdd, Int.reduceMul, stG_own] at hlw hr1 hr2 ⊢
  refine callF_of hlw ?_
  (refine ev ?_; try with_reducible exact trivial)
  refine callF_of hr1 ?_
  (refine ev ?_; try with_reducible exact trivial)
  refine callF_of hr2 ?_
  (refine ev ?_; try with_reducible exact trivial)
  rfl
end Go.Proofs

/-
  STEREONET: the law's reaches, round, pixel. Own work.
-/
namespace Go.Proofs
open Go Go.Pi Go.RowKit Go.Ar Go.Ne

theorem Tryz.kscale (a : V3) (q : Rat) (ha : Sz3 300 a) (hq : rd q ≤ 300) : Con Tryz.prog Tryz.L 28 [.agg (svD (tx3 a)), .str (rt q)] (.agg (svD (tx3 (sc3 a q)))) := by
  obtain ⟨a1, a2, a3⟩ := ha
  refine rule28 Tryz.hL rfl rfl rfl ?_
  simp only [sc3, tx3, svD, pc28, rs28, oU, oC, evX, evY, evZ, forall_const, implies_true, initE, stepF, D.clean, mvF, moF, tkF, shF, ariF, ciF, catF, scF, ebF, eqF, eqOk, eqPr, enF, notF, ngF, cvF, csF, csbF, lenF, lenSF, ixF, iaF, PX.slot, iaAF, faF, ldF, D.mem, stF, bxF, mkSF, boundF, fldF, ixAF, mmF2, D.plain, D.isPure, optAll, D.dull, callVF, splice, D.cells, D.one, sets, resT, D.flat, D.flat0, D.simple, Nat.reduceBNe, Nat.reduceLT, reduceIte, Nat.reduceEqDiff, Nat.reduceAdd, Nat.reduceMul, Nat.reduceSub, Nat.reduceLeDiff, Int.reduceToNat, Int.reduceLT, Int.reduceLE, Int.reduceEq, Int.reduceNeg, Int.reduceSub, Int.reduceAdd, Int.reduceMul, stG_own]
  refine callF_of (Tryz.qmul a.1 q (by omega) (by omega)) ?_
  (refine ev ?_; try with_reducible exact trivial)
  refine callF_of (Tryz.qmul a.2.1 q (by omega) (by omega)) ?_
  (refine ev ?_; try with_reducible exact trivial)
  refine callF_of (Tryz.qmul a.2.2 q (by omega) (by omega)) ?_
  (refine ev ?_; try with_reducible exact trivial)
  rfl
end Go.Proofs

/-
  STEREONET: the law's round, pixel, brief; the reference's sums and cross products. Own work.
-/
namespace Go.Proofs
open Go Go.Pi Go.RowKit Go.Ar Go.Ne

noncomputable def badS (v : S3) : Bool := dB (¬ok3 v)
end Go.Proofs

/-
  STEREONET: brief and first in the plain walk. Own work.
-/
namespace Go.Proofs
open Go Go.Pi Go.RowKit Go.Shelf Go.Ar Go.Ne

noncomputable def longS (v : S3) : Bool := dB (¬szS 12 v)
/-- the first error: of numbers, of the net, of directions -/
noncomputable def firE (n : Option (Int × Int)) (l : List S3) : Int :=
  if numE l ≠ 0 then numE l else match n with | none => zerE l | some (k, R) => if netE k R ≠ 0 then netE k R else zerE l
end Go.Proofs

/-
  STEREONET: first with a net, in the plain walk. Own work.
-/
namespace Go.Proofs
open Go Go.Pi Go.RowKit Go.Shelf Go.Ar Go.Ne

end Go.Proofs

/-
  STEREONET: Pixel, Lower, Same. Own work.
-/
namespace Go.Proofs
open Go Go.Pi Go.RowKit Go.Ar Go.Ne

/-- the first error: of numbers, of the net, of directions -/
noncomputable def errN (n : Option (Int × Int)) (l : List S3) : Int :=
  if numE l ≠ 0 then numE l else match n with | none => zerE l | some (k, R) => if netE k R ≠ 0 then netE k R else zerE l
theorem num_0 {l : List S3} : numE l = 0 ↔ ∀ v ∈ l, ok3 v := chk_0
theorem net_0 {k R : Int} : netE k R = 0 ↔ (k = 1 ∨ k = 2) ∧ 1 ≤ R ∧ R ≤ 1000 := by
  unfold netE
  repeat' split
  all_goals omega
theorem zer_0 {l : List S3} : zerE l = 0 ↔ l.any zS = false := by
  unfold zerE
  cases l.any zS <;> simp
theorem errN_0 {k R : Int} {l : List S3} : errN (some (k, R)) l = 0 ↔ (∀ v ∈ l, ok3 v) ∧ ((k = 1 ∨ k = 2) ∧ 1 ≤ R ∧ R ≤ 1000) ∧ l.any zS = false := by
  rw [← num_0, ← net_0, ← zer_0]
  unfold errN
  simp only
  by_cases h : numE l = 0 <;> by_cases h2 : netE k R = 0 <;> simp [h, h2]
noncomputable def pixR (k R : Int) (v : S3) : D :=
  if errN (some (k, R)) [v] = 0 then .tup [pxD (pixV (areaB k) R.toNat (val3 v)), .int .i64 0] else .tup [.agg [.int .i64 0, .int .i64 0], .int .i64 (errN (some (k, R)) [v])]
theorem pixR_al (k R : Int) (v : S3) : aliasOf (pixR k R v) = none := by unfold pixR; split <;> rfl
set_option maxHeartbeats 4000000 in
theorem Tryz.sPixel (k R : Int) (v : S3) (h : szS 200 v) : Con Tryz.prog Tryz.L 12 [netD k R, .agg (svD v)] (pixR k R v) := by
  have hsz : ∀ x ∈ [v], szS 1000000 x := fun x hx => by
    obtain rfl : x = v := by simpa using hx
    obtain ⟨a, b, c⟩ := h
    exact ⟨by omega, by omega, by omega⟩
  have ho := Tryz.sopen k R [v] (by simp) hsz
  have hz := Tryz.szeros [v] (by simp)
  have hpx := fun (h0 : errN (some (k, R)) [v] = 0) => by
    obtain ⟨e1, ⟨e2, e3, e4⟩, e5⟩ := errN_0.1 h0
    have e6 := e1 v (by simp)
    have := Tryz.spixel k R.toNat (by omega) (by omega) (val3 v) (val3_sz e6 h)
    rw [← val3_tx e6, show ((R.toNat : Nat) : Int) = R by omega] at this
    exact this
  refine rule12 Tryz.hL (pixR_al _ _ _) rfl rfl ?_
  simp only [netD, svD, pc12, rs12, oU, oC, evX, evY, evZ, forall_const, implies_true, initE, stepF, D.clean, mvF, moF, tkF, shF, ariF, ciF, catF, scF, ebF, eqF, eqOk, eqPr, enF, notF, ngF, cvF, csF, csbF, lenF, lenSF, ixF, iaF, PX.slot, iaAF, faF, ldF, D.mem, stF, bxF, mkSF, boundF, fldF, ixAF, mmF2, D.plain, D.isPure, optAll, D.dull, callVF, splice, D.cells, D.one, sets, resT, D.flat, D.flat0, D.simple, Nat.reduceBNe, Nat.reduceLT, reduceIte, Nat.reduceEqDiff, Nat.reduceAdd, Nat.reduceMul, Nat.reduceSub, Nat.reduceLeDiff, Int.reduceToNat, Int.reduceLT, Int.reduceLE, Int.reduceEq, Int.reduceNeg, Int.reduceSub, Int.reduceAdd, Int.reduceMul, stG_own] at hpx ho ⊢
  refine callF_of ho ?_
  (refine ev ?_; try with_reducible exact trivial)
  unfold pixR
  refine ⟨fun h1 => ?_, fun h1 => ?_⟩
  · have e : errN (some (k, R)) [v] = if numE [v] ≠ 0 then numE [v] else netE k R := by
      unfold errN
      simp only
      by_cases a : numE [v] = 0 <;> by_cases b : netE k R = 0 <;> simp [a, b] at h1 ⊢
    rw [e, if_neg h1]
    rfl
  · have a : numE [v] = 0 := by
      by_cases a : numE [v] = 0
      · exact a
      · simp [a] at h1
    have b : netE k R = 0 := by simpa [a] using h1
    refine callF_of hz ?_
    (refine ev ?_; try with_reducible exact trivial)
    have e : errN (some (k, R)) [v] = zerE [v] := by
      unfold errN
      simp [a, b]
    rw [e] at hpx ⊢
    refine ⟨fun h2 => ?_, fun h2 => ?_⟩
    · rw [if_neg h2]
      rfl
    · rw [if_pos (Classical.not_not.1 h2)]
      refine callF_of (hpx (Classical.not_not.1 h2)) ?_
      simp only [pxD, evX, evY, evZ, forall_const, implies_true, initE, stepF, D.clean, mvF, moF, tkF, shF, ariF, ciF, catF, scF, ebF, eqF, eqOk, eqPr, enF, notF, ngF, cvF, csF, csbF, lenF, lenSF, ixF, iaF, PX.slot, iaAF, faF, ldF, D.mem, stF, bxF, mkSF, boundF, fldF, ixAF, mmF2, D.plain, D.isPure, optAll, D.dull, callVF, splice, D.cells, D.one, sets, resT, D.flat, D.flat0, D.simple, Nat.reduceBNe, Nat.reduceLT, reduceIte, Nat.reduceEqDiff, Nat.reduceAdd, Nat.reduceMul, Nat.reduceSub, Nat.reduceLeDiff, Int.reduceToNat, Int.reduceLT, Int.reduceLE, Int.reduceEq, Int.reduceNeg, Int.reduceSub, Int.reduceAdd, Int.reduceMul, stG_own]
      rfl
noncomputable def lowR (v : S3) : D :=
  if errN none [v] = 0 then .tup [.agg (svD (tx3 (low3 (val3 v)))), .int .i64 0] else .tup [.agg [.str [], .str [], .str []], .int .i64 (errN none [v])]
noncomputable def sameR (a b : S3) : D :=
  if errN none [a, b] = 0 then .tup [.bool (zer3 (crs3 (val3 a) (val3 b))), .int .i64 0] else .tup [.bool false, .int .i64 (errN none [a, b])]
end Go.Proofs
