/-
 MATRIX: the closure of reduced and slices.IndexFunc over own rows. Own work.
-/
import Derived.Test.YtbcehhemdapjlaaGreatDoorEh
import Derived.Test.YtbcehhemdapjlaaGreatDoorSf
import Derived.Deep.LoopGhost
import Derived.Shelf.RegionOpenPlain
import Derived.Test.YtbcehhemdapjlaaGreatDoorPj
import Derived.Test.YtbcehhemdapjlaaGreatDoorEi
import Derived.Test.YtbcehhemdapjlaaGreatDoorEc
import Derived.Shelf.Abstract
import Derived.WalkKit
import Derived.OwnWalkIn
import Derived.TacticsInMore
import Derived.LoopNIn
import Derived.LoopIn
import Derived.BigCall
import Derived.BigGuard
set_option linter.unusedVariables false
set_option linter.unusedSimpArgs false
namespace Go.Proofs
open Go Go.Pi Go.RowKit Go.Shelf Go.Ar Go.Mx

/-- the cells of a number -/
def sv (q : Rat) : Value := .string ⟨(rt q).toArray⟩
set_option maxRecDepth 100000 in
set_option maxHeartbeats 4000000 in
theorem Tryz.pnz (W : World) (b bx C m c : Nat) (q : Rat) (hc : c < m) (hm : m ≤ 100) (h : W.cell? ⟨b, c, none⟩ = some (.string ⟨(rt q).toArray⟩)) (hx : W.cell? ⟨bx, 0, none⟩ = some (.int .i64 c)) :
  Calls Tryz.prog 142 #[.slice (some ⟨b, 0, none⟩) m C, .pointer (some ⟨bx, 0, none⟩)] W fun e W' => e = .returned (.bool (decide (q ≠ 0))) ∧ Below W.heap.size W W' := by
 have mixed : Tryz.prog.follows .mixedOrders = true := by kernel_rfl
 have t1 := Tryz.underlying59; have a1 := Tryz.isAgg59; have z1 := Tryz.sizeOf59; have v1 := Tryz.zeroValue59; have u1 := run_underlying Tryz.underlying59
 have t2 := Tryz.underlying28; have a2 := Tryz.isAgg28; have z2 := Tryz.sizeOf28; have v2 := Tryz.zeroValue28; have u2 := run_underlying Tryz.underlying28
 have t3 := Tryz.underlying4; have a3 := Tryz.isAgg4; have z3 := Tryz.sizeOf4; have v3 := Tryz.zeroValue4; have u3 := run_underlying Tryz.underlying4
 have t4 := Tryz.underlying3; have a4 := Tryz.isAgg3; have z4 := Tryz.sizeOf3; have v4 := Tryz.zeroValue3; have u4 := run_underlying Tryz.underlying3
 have hlt : (c : Int) < (m : Int) := by omega
 have hc0 : (0 : Int) ≤ (c : Int) := Int.natCast_nonneg _
 go_enter Tryz.func142, Tryz.ntmps142
 go_wp2
 go_ret
 refine ⟨?_, Below.refl _ _⟩
 have : (rt q == [48]) = decide (q = 0) := by rw [Bool.eq_iff_iff]; simp [rt_zero]
 simp [this]
set_option maxRecDepth 100000 in
set_option maxHeartbeats 4000000 in
theorem Tryz.mindex (base : Nat) (W : World) (g cap n m : Nat) (B C : Nat → Nat) (F : Mtx) (bx k c cap' : Nat) (hc : c < m) (hm : m ≤ 100) (hn : n ≤ 100) (hk : k ≤ n)
  (h : OwnM W base 59 28 g cap n m B C (fun i j => .string ⟨(rt (F i j)).toArray⟩)) (hx : W.cell? ⟨bx, 0, none⟩ = some (.int .i64 c)) (hbx : bx < W.heap.size) :
  Calls Tryz.prog 141 #[.slice (some ⟨g, k, none⟩) (n - k) cap', .func (.func 142) #[] #[.pointer (some ⟨bx, 0, none⟩)]] W fun e W' =>
   e = .returned (.int .i64 (if lookM F c (n - k) k < n then ((lookM F c (n - k) k - k : Nat) : Int) else -1)) ∧ Below W.heap.size W W' := by
 have mixed : Tryz.prog.follows .mixedOrders = true := by kernel_rfl
 have t0 := Tryz.underlying109; have a0 := Tryz.isAgg109; have z0 := Tryz.sizeOf109; have v0 := Tryz.zeroValue109; have u0 := run_underlying Tryz.underlying109
 have t1 := Tryz.underlying59; have a1 := Tryz.isAgg59; have z1 := Tryz.sizeOf59; have v1 := Tryz.zeroValue59; have u1 := run_underlying Tryz.underlying59
 have t3 := Tryz.underlying4; have a3 := Tryz.isAgg4; have z3 := Tryz.sizeOf4; have v3 := Tryz.zeroValue4; have u3 := run_underlying Tryz.underlying4
 have t4 := Tryz.underlying3; have a4 := Tryz.isAgg3; have z4 := Tryz.sizeOf3; have v4 := Tryz.zeroValue3; have u4 := run_underlying Tryz.underlying3
 have e0 : ((n - k : Nat) : Int) = (n : Int) - k := by omega
 have HR : ∃ r : Int, Hid (r = if lookM F c (n - k) k < n then ((lookM F c (n - k) k - k : Nat) : Int) else -1) := ⟨_, rfl⟩
 obtain ⟨r, HR⟩ := HR
 rw [← HR.out]
 go_enter Tryz.func141, Tryz.ntmps141
 go_wp2
 go_loopg [8] (n - k) (fun gg s8 wr => ∃ i : Nat, s8 = .int .i64 i ∧ i ≤ n - k ∧ n - k ≤ gg + i ∧ Hid (lookM F c (n - k) k = lookM F c (n - k - i) (k + i)) ∧ Below W.heap.size W wr)
 case atStart => exact ⟨0, rfl, by omega, by omega, rfl, Below.refl _ _⟩
 case round =>
  obtain ⟨i, rfl, hi, hgi, HI, hbw⟩ := hrel
  by_cases hlt : i < n - k
  ·have ho := (h.below hbw).drew
   have ct := (h.below hbw).topCell (i := k + i) (by omega)
   have cr := (h.below hbw).rowCell (i := k + i) (j := c) (by omega) hc
   have cx : wr.cell? ⟨bx, 0, none⟩ = some (.int .i64 c) := (hbw.cell (p := ⟨bx, 0, none⟩) hbx).trans hx
   have hz := Tryz.pnz wr (B (k + i)) bx (C (k + i)) m c (F (k + i) c) hc hm cr cx
   have hiz : (i : Int) < ((n - k : Nat) : Int) := by omega
   have hi0 : (0 : Int) ≤ (i : Int) := Int.natCast_nonneg _
   clear cr cx ho
   by_cases hq : F (k + i) c = 0
   ·have hqd : decide (F (k + i) c ≠ 0) = false := by simp [hq]
    rw [hqd] at hz
    have HQ : Hid (F (k + i) c = 0) := hq
    clear hq hqd
    go_wp2_with (go_at_call 142; refine Calls.mono hz ?_; rintro e W1 ⟨rfl, hb1⟩)
    go_roundg (n - k - (i + 1))
    case measure => omega
    case rel =>
     refine ⟨i + 1, by go_num, by omega, by omega, ?_, hbw.trans (hb1.mono hbw.size)⟩
     have := HI.out
     obtain ⟨f, hf⟩ : ∃ f, n - k - i = f + 1 := ⟨n - k - i - 1, by omega⟩
     rw [hf, lookM, if_pos HQ.out] at this
     show _ = _
     rw [this]; congr 1; omega
   ·have hqd : decide (F (k + i) c ≠ 0) = true := by simp [hq]
    rw [hqd] at hz
    have HQ : Hid (¬F (k + i) c = 0) := hq
    clear hq hqd
    go_wp2_with (go_at_call 142; refine Calls.mono hz ?_; rintro e W1 ⟨rfl, hb1⟩)
    go_ret
    refine ⟨?_, hbw.trans (hb1.mono hbw.size)⟩
    have := HI.out
    obtain ⟨f, hf⟩ : ∃ f, n - k - i = f + 1 := ⟨n - k - i - 1, by omega⟩
    rw [hf, lookM, if_neg HQ.out] at this
    have hr := HR.out
    rw [this, if_pos (by omega)] at hr
    rw [hr]
    have : ((k + i - k : Nat) : Int) = (i : Int) := by omega
    simp [this]
  ·have hiz : ¬(i : Int) < ((n - k : Nat) : Int) := by omega
   go_wp2
   go_ret
   refine ⟨?_, hbw⟩
   have := HI.out
   rw [show n - k - i = 0 by omega, lookM] at this
   have hr := HR.out
   rw [this, if_neg (by omega)] at hr
   rw [hr]
   rfl
end Go.Proofs

/-
 MATRIX: data of rows and matrices; slices.Clone of a row. Own work.
-/
namespace Go.Proofs
open Go Go.Pi Go.RowKit Go.Shelf Go.Ar Go.Mx

def strs (m : Nat) (r : Nat → Rat) : List D := lst m fun j => .str (rt (r j))
abbrev rowD (m : Nat) (r : Nat → Rat) : D := .sl m (strs m r)
def rowsD (n m : Nat) (F : Mtx) : List D := lst n fun i => rowD m (F i)
abbrev matD (n m : Nat) (F : Mtx) : D := .sl n (rowsD n m F)
theorem strs_len (m : Nat) (r : Nat → Rat) : (strs m r).length = m := lst_len ..
theorem rowsD_len (n m : Nat) (F : Mtx) : (rowsD n m F).length = n := lst_len ..
theorem Tryz.cuClone : ∀ c, Tryz.f140.body = some c → ∀ q ∈ cusL c pc140, CusOk Tryz.prog Tryz.L q.1 q.2.1 q.2.2 := by
 intro c hc q hq
 cases Option.some.inj hc
 simp only [pc140, cusL, List.nil_append, List.append_nil, List.mem_singleton, List.cons_append] at hq
 subst hq
 exact nilT_ok rfl rfl rfl rfl rfl rfl rfl Tryz.underlying59 (by decide) (by decide) (by decide)
theorem Tryz.mclone (m : Nat) (r : Nat → Rat) (hm : m ≤ 1000) : Con Tryz.prog Tryz.L 140 [rowD m r] (.own true 28 m (strs m r)) := by
 refine rule140 Tryz.hL (fun q hq => by simp [PC.backs, pc140] at hq) Tryz.cuClone rfl rfl rfl ?_
 simp only [pc140, rs140, oU, oC, nilT_f, evX, evY, evZ, forall_const, implies_true, initE, stepF, D.clean, mvF, moF, tkF, shF, ariF, ciF, catF, scF, ebF, eqF, eqOk, eqPr, enF, notF, ngF, cvF, csF, csbF, lenF, lenSF, ixF, iaF, PX.slot, iaAF, faF, ldF, D.mem, stF, bxF, mkSF, boundF, fldF, ixAF, mmF2, D.plain, D.isPure, optAll, D.dull, callVF, splice, D.cells, D.one, sets, resT, D.flat, D.flat0, D.simple, Nat.reduceBNe, Nat.reduceLT, reduceIte, Nat.reduceEqDiff, Nat.reduceAdd, Nat.reduceMul, Nat.reduceSub, Nat.reduceLeDiff, Int.reduceToNat, Int.reduceLT, Int.reduceLE, Int.reduceEq, Int.reduceNeg, Int.reduceSub, Int.reduceAdd, Int.reduceMul, stG_own]
 refine ⟨m, strs m r, rfl, fun b hb0 => ?_⟩
 cases b
 ·(refine ev ?_; try exact ⟨⟩)
  exact ⟨strs_len .., by omega, by omega⟩
 ·obtain rfl : m = 0 := hb0 rfl
  (refine ev ?_; try exact ⟨⟩)
  rfl
end Go.Proofs

/-
 MATRIX: columns, numbers, Check, short, result, list, square, for right numbers. Own work.
-/
namespace Go.Proofs
open Go Go.Pi Go.RowKit Go.Shelf Go.Ar Go.Mx

theorem ldC_lst {n k t : Nat} {f : Nat → D} (h1 : ∀ i, (f i).one = true) {N : EP} {E : Env} : ldC false 1 (List.take 1 (List.drop k (lst n f))) t N E = (k < n ∧ N (st1 E t (f k))) := by
 by_cases hk : k < n
 ·have e : List.drop k (lst n f) = f k :: List.drop (k + 1) (lst n f) := by
   rw [List.drop_eq_getElem_cons (by rw [lst_len]; exact hk)]; simp [lst]
  rw [e]; simp [ldC, ofCells, h1 k, hk]
 ·rw [List.drop_eq_nil_of_le (by rw [lst_len]; omega)]; simp [ldC, ofCells, hk]
theorem ldC_strsM {m k t : Nat} {r : Nat → Rat} {N : EP} {E : Env} : ldC false 1 (List.take 1 (List.drop k (strs m r))) t N E = (k < m ∧ N (st1 E t (.str (rt (r k))))) := ldC_lst fun _ => rfl
theorem ldC_rowsD {n m k t : Nat} {F : Mtx} {N : EP} {E : Env} : ldC false 1 (List.take 1 (List.drop k (rowsD n m F))) t N E = (k < n ∧ N (st1 E t (rowD m (F k)))) := ldC_lst fun _ => rfl
theorem ldC_rowsD0 {n m t : Nat} {F : Mtx} {N : EP} {E : Env} : ldC false 1 (List.take 1 (rowsD n m F)) t N E = (0 < n ∧ N (st1 E t (rowD m (F 0)))) := ldC_rowsD (k := 0)
/-- the numbers are right -/
def Rt (m : Nat) (r : Nat → Rat) : Prop := ∀ j, j < m → rd (r j) ≤ 200
def Rts (n m : Nat) (F : Mtx) : Prop := ∀ i, i < n → Rt m (F i)
theorem Tryz.mcolumns (n m : Nat) (F : Mtx) (hn : n ≤ 1000) (h0 : n = 0 → m = 0) : Con Tryz.prog Tryz.L 102 [matD n m F] (.int .i64 m) := by
 refine rule102 Tryz.hL rfl rfl rfl ?_
 (simp only [pc102, rs102, oU, oC]; refine ev ?_; try exact ⟨⟩)
 refine ⟨fun h => ?_, fun h => ⟨⟨by omega, by rw [rowsD_len]; omega⟩, ?_⟩⟩
 ·have := h0 (by omega); subst this; rfl
 ·rw [ldC_rowsD0]
  (refine ev ?_; try exact ⟨⟩)
  omega
theorem Tryz.mnumbers (m : Nat) (r : Nat → Rat) (hm : m ≤ 1000) (h : Rt m r) : Con Tryz.prog Tryz.L 139 [rowD m r] (.int .i64 0) := by
 refine rule139 Tryz.hL rfl rfl rfl ?_
 (simp only [pc139, rs139, oU, oC]; refine ev ?_; try exact ⟨⟩)
 refine loopF_of (fun E => ∃ k : Nat, k ≤ m ∧ E = [(6, rowD m r), (7, .int .i64 m), (8, .int .i64 k)])
  (fun E => match lk E 8 with | .int _ i => m - i.toNat | _ => 0) ⟨0, Nat.zero_le _, rfl⟩ ?_
 rintro _ ⟨k, hk, rfl⟩
 simp only [evX, evY, evZ, forall_const, implies_true, initE, stepF, D.clean, mvF, moF, tkF, shF, ariF, ciF, catF, scF, ebF, eqF, eqOk, eqPr, enF, notF, ngF, cvF, csF, csbF, lenF, lenSF, ixF, iaF, PX.slot, iaAF, faF, ldF, D.mem, stF, bxF, mkSF, boundF, fldF, ixAF, mmF2, D.plain, D.isPure, optAll, D.dull, callVF, splice, D.cells, D.one, sets, resT, D.flat, D.flat0, D.simple, Nat.reduceBNe, Nat.reduceLT, reduceIte, Nat.reduceEqDiff, Nat.reduceAdd, Nat.reduceMul, Nat.reduceSub, Nat.reduceLeDiff, Int.reduceToNat, Int.reduceLT, Int.reduceLE, Int.reduceEq, Int.reduceNeg, Int.reduceSub, Int.reduceAdd, Int.reduceMul, stG_own, ldC_strsM]
 intro h3
 refine ⟨⟨by omega, by omega, by rw [strs_len]; omega⟩, by omega, ?_⟩
 refine callF_of (Tryz.rcheckQ _ (h k (by omega))) ?_
 (refine ev ?_; try exact ⟨⟩)
 exact ⟨by omega, ⟨k + 1, by omega, by simp⟩, by omega⟩
theorem Tryz.mshort (n m : Nat) (F : Mtx) (hn : n ≤ 1000) (hm : m ≤ 1000) (h : Rts n m F) : Con Tryz.prog Tryz.L 106 [matD n m F] (.int .i64 0) := by
 refine rule106 Tryz.hL rfl rfl rfl ?_
 (simp only [pc106, rs106, oU, oC]; refine ev ?_; try exact ⟨⟩)
 refine loopF_of (fun E => ∃ k : Nat, k ≤ n ∧ E = [(5, matD n m F), (6, .int .i64 n), (7, .int .i64 k)])
  (fun E => match lk E 7 with | .int _ i => n - i.toNat | _ => 0) ⟨0, Nat.zero_le _, rfl⟩ ?_
 rintro _ ⟨k, hk, rfl⟩
 simp only [evX, evY, evZ, forall_const, implies_true, initE, stepF, D.clean, mvF, moF, tkF, shF, ariF, ciF, catF, scF, ebF, eqF, eqOk, eqPr, enF, notF, ngF, cvF, csF, csbF, lenF, lenSF, ixF, iaF, PX.slot, iaAF, faF, ldF, D.mem, stF, bxF, mkSF, boundF, fldF, ixAF, mmF2, D.plain, D.isPure, optAll, D.dull, callVF, splice, D.cells, D.one, sets, resT, D.flat, D.flat0, D.simple, Nat.reduceBNe, Nat.reduceLT, reduceIte, Nat.reduceEqDiff, Nat.reduceAdd, Nat.reduceMul, Nat.reduceSub, Nat.reduceLeDiff, Int.reduceToNat, Int.reduceLT, Int.reduceLE, Int.reduceEq, Int.reduceNeg, Int.reduceSub, Int.reduceAdd, Int.reduceMul, stG_own, ldC_rowsD]
 intro h3
 refine ⟨⟨by omega, by omega, by rw [rowsD_len]; omega⟩, by omega, ?_⟩
 refine callF_of (Tryz.mnumbers m (F k) hm (h k (by omega))) ?_
 (refine ev ?_; try exact ⟨⟩)
 exact ⟨by omega, ⟨k + 1, by omega, by simp⟩, by omega⟩
theorem Tryz.mresult (n m : Nat) (F : Mtx) (hn : n ≤ 1000) (hm : m ≤ 1000) (h : Rts n m F) : Con Tryz.prog Tryz.L 108 [matD n m F] (.tup [matD n m F, .int .i64 0]) := by
 refine rule108 Tryz.hL rfl rfl rfl ?_
 (simp only [pc108, rs108, oU, oC]; refine ev ?_; try exact ⟨⟩)
 refine callF_of (Tryz.mshort n m F hn hm h) ?_
 (refine ev ?_; try exact ⟨⟩)
 rfl
theorem Tryz.mcheck (n m : Nat) (F : Mtx) (hn : n ≤ 12) (hm : m ≤ 12) (h : Rts n m F) : Con Tryz.prog Tryz.L 100 [matD n m F] (.int .i64 0) := by
 refine rule100 Tryz.hL rfl rfl rfl ?_
 (simp only [pc100, rs100, oU, oC]; refine ev ?_; try exact ⟨⟩)
 refine loopF_of (fun E => ∃ k : Nat, k ≤ n ∧ E = [(0, matD n m F), (10, matD n m F), (11, .int .i64 n), (12, .int .i64 k)])
  (fun E => match lk E 12 with | .int _ i => n - i.toNat | _ => 0) ⟨0, Nat.zero_le _, rfl⟩ ?_
 rintro _ ⟨k, hk, rfl⟩
 simp only [evX, evY, evZ, forall_const, implies_true, initE, stepF, D.clean, mvF, moF, tkF, shF, ariF, ciF, catF, scF, ebF, eqF, eqOk, eqPr, enF, notF, ngF, cvF, csF, csbF, lenF, lenSF, ixF, iaF, PX.slot, iaAF, faF, ldF, D.mem, stF, bxF, mkSF, boundF, fldF, ixAF, mmF2, D.plain, D.isPure, optAll, D.dull, callVF, splice, D.cells, D.one, sets, resT, D.flat, D.flat0, D.simple, Nat.reduceBNe, Nat.reduceLT, reduceIte, Nat.reduceEqDiff, Nat.reduceAdd, Nat.reduceMul, Nat.reduceSub, Nat.reduceLeDiff, Int.reduceToNat, Int.reduceLT, Int.reduceLE, Int.reduceEq, Int.reduceNeg, Int.reduceSub, Int.reduceAdd, Int.reduceMul, stG_own, ldC_rowsD]
 refine ⟨fun h3 => ⟨⟨by omega, by omega, by rw [rowsD_len]; omega⟩, by omega, ?_⟩, fun h3 => ⟨by omega, ?_⟩⟩
 ·refine callF_of (Tryz.mnumbers m (F k) (by omega) (h k (by omega))) ?_
  (refine ev ?_; try exact ⟨⟩)
  exact ⟨by omega, ⟨k + 1, by omega, by simp⟩, by omega⟩
 ·intro _
  refine loopF_of (fun E => ∃ k : Nat, k ≤ n ∧ E = [(0, matD n m F), (25, matD n m F), (26, .int .i64 n), (27, .int .i64 k)])
   (fun E => match lk E 27 with | .int _ i => n - i.toNat | _ => 0) ⟨0, Nat.zero_le _, rfl⟩ ?_
  rintro _ ⟨k, hk, rfl⟩
  simp only [evX, evY, evZ, forall_const, implies_true, initE, stepF, D.clean, mvF, moF, tkF, shF, ariF, ciF, catF, scF, ebF, eqF, eqOk, eqPr, enF, notF, ngF, cvF, csF, csbF, lenF, lenSF, ixF, iaF, PX.slot, iaAF, faF, ldF, D.mem, stF, bxF, mkSF, boundF, fldF, ixAF, mmF2, D.plain, D.isPure, optAll, D.dull, callVF, splice, D.cells, D.one, sets, resT, D.flat, D.flat0, D.simple, Nat.reduceBNe, Nat.reduceLT, reduceIte, Nat.reduceEqDiff, Nat.reduceAdd, Nat.reduceMul, Nat.reduceSub, Nat.reduceLeDiff, Int.reduceToNat, Int.reduceLT, Int.reduceLE, Int.reduceEq, Int.reduceNeg, Int.reduceSub, Int.reduceAdd, Int.reduceMul, stG_own, ldC_rowsD]
  refine ⟨fun h3 => ⟨⟨by omega, by omega, by rw [rowsD_len]; omega⟩, by omega, ?_⟩, fun h3 => ?_⟩
  ·exact ⟨fun _ => by omega, fun _ => ⟨by omega, ⟨k + 1, by omega, by simp⟩, by omega⟩⟩
  ·refine loopF_of (fun E => ∃ k : Nat, k ≤ n ∧ E = [(0, matD n m F), (35, matD n m F), (36, .int .i64 n), (37, .int .i64 k)])
    (fun E => match lk E 37 with | .int _ i => n - i.toNat | _ => 0) ⟨0, Nat.zero_le _, rfl⟩ ?_
   rintro _ ⟨k, hk, rfl⟩
   simp only [evX, evY, evZ, forall_const, implies_true, initE, stepF, D.clean, mvF, moF, tkF, shF, ariF, ciF, catF, scF, ebF, eqF, eqOk, eqPr, enF, notF, ngF, cvF, csF, csbF, lenF, lenSF, ixF, iaF, PX.slot, iaAF, faF, ldF, D.mem, stF, bxF, mkSF, boundF, fldF, ixAF, mmF2, D.plain, D.isPure, optAll, D.dull, callVF, splice, D.cells, D.one, sets, resT, D.flat, D.flat0, D.simple, Nat.reduceBNe, Nat.reduceLT, reduceIte, Nat.reduceEqDiff, Nat.reduceAdd, Nat.reduceMul, Nat.reduceSub, Nat.reduceLeDiff, Int.reduceToNat, Int.reduceLT, Int.reduceLE, Int.reduceEq, Int.reduceNeg, Int.reduceSub, Int.reduceAdd, Int.reduceMul, stG_own, ldC_rowsD]
   intro h3
   refine ⟨⟨by omega, by omega, by rw [rowsD_len]; omega⟩, by omega, ?_⟩
   refine ⟨⟨by omega, by rw [rowsD_len]; omega⟩, ?_⟩
   rw [ldC_rowsD0]
   (refine ev ?_; try exact ⟨⟩)
   exact ⟨by omega, by omega, ⟨k + 1, by omega, by simp⟩, by omega⟩
end Go.Proofs

/-
 MATRIX: dot, apply, transpose, Grow, Concat, beside, in the reading. Own work.
-/
namespace Go.Pi
theorem lst_app {α : Type} (n m : Nat) (f g : Nat → α) : lst n f ++ lst m g = lst (n + m) (fun j => if j < n then f j else g (j - n)) := by
 apply List.ext_getElem?
 intro i
 rw [List.getElem?_append, lst_len]
 by_cases h : i < n
 ·rw [if_pos h, lst_at _ h, lst_at _ (by omega), if_pos h]
 ·rw [if_neg h]
  by_cases h2 : i < n + m
  ·rw [lst_at _ (by omega), lst_at _ h2, if_neg h]
  ·rw [List.getElem?_eq_none (by rw [lst_len]; omega), List.getElem?_eq_none (by rw [lst_len]; omega)]
end Go.Pi
namespace Go.Proofs
open Go Go.Pi Go.RowKit Go.Shelf Go.Ar Go.Mx

theorem rd_nb {k l : Nat} {q : Rat} (h : NB k l q) : rd q ≤ max k l + 1 := by
 obtain ⟨u, d, h1, h2, h3, h4⟩ := h
 have hd : (d : Rat) ≠ 0 := fun e => by
  have : d = 0 := by exact_mod_cast e
  omega
 have e : q = mkRat u d := by rw [Rat.mkRat_eq_div, ← h4]; grind
 have p1 : ∀ t, 10 ^ t < 10 ^ (t + 1) := fun t => by rw [Nat.pow_succ]; have := Nat.pow_pos (n := t) (show 0 < 10 by decide); omega
 rw [e]
 refine rd_mk (by omega) (Nat.le_trans (dd_len_le (Nat.succ_pos k) (Nat.lt_of_le_of_lt h3 (p1 k))) ?_) (Nat.le_trans (dd_len_le (Nat.succ_pos l) (Nat.lt_of_le_of_lt h2 (p1 l))) ?_) <;> omega
theorem rowsD_succ (k m : Nat) (F : Mtx) : rowsD (k + 1) m F = rowsD k m F ++ [rowD m (F k)] := lst_succ ..
end Go.Proofs

/-
 MATRIX: slices.Grow of a nil slice of numbers; Concat; beside. Own work.
-/
namespace Go.Proofs
open Go Go.Pi Go.RowKit Go.Shelf Go.Ar Go.Mx

theorem next0 {n : Nat} (h : 1 ≤ n) : Builtin.nextslicecap n 0 = n := by unfold Builtin.nextslicecap; rw [if_pos (by omega)]
theorem cap_lt {n : Nat} {t : Nat} (h : n ≤ 1000000) : n ≤ (Question.appendCap n 0 28).cut t ∧ (Question.appendCap n 0 28).cut t ≤ maxLen := by
 have e : (Question.appendCap n 0 28).cut t = n + t % (2 ^ 63 - n) := rfl
 have h1 : t % (2 ^ 63 - n) < 2 ^ 63 - n := Nat.mod_lt _ (by omega)
 rw [e]; unfold maxLen; omega

set_option maxRecDepth 100000 in
set_option maxHeartbeats 2000000 in
theorem Tryz.mgrow (n : Nat) (hn : n ≤ 1000000) (w : World) : Calls Tryz.prog 166 #[.slice none 0 0, .int .i64 n] w fun e w' => ∃ v, e = .returned v ∧ Below w.heap.size w w' ∧
  ((v = .slice none 0 0) ∨ ∃ cap arr, v = .slice (some ⟨w.heap.size, 0, none⟩) 0 cap ∧ w.heap.size < w'.heap.size ∧ w'.heap[w.heap.size]? = some (.cells arr 28 (0, 0)) ∧ cap ≤ maxLen ∧ arr.size = cap * 1) := by
 rcases Nat.eq_zero_or_pos n with h1 | h1
 ·subst h1
  go_enter Tryz.func166, Tryz.ntmps166
  go_wp2
  go_ret
  exact ⟨_, rfl, Below.refl _ _, .inl rfl⟩
 ·have hbytes : Tryz.t28.bytes = 16 := rfl
  have hnx := next0 h1
  go_enter Tryz.func166, Tryz.ntmps166
  go_wp2
  go_ret
  have hc := cap_lt (t := w.tape w.drawn (Question.appendCap n 0 28)) hn
  generalize (Question.appendCap n 0 28).cut (w.tape w.drawn (Question.appendCap n 0 28)) = cap at hc
  refine ⟨.slice (some ⟨w.heap.size, 0, none⟩) 0 cap, rfl, ((Below.refl _ w).alloc (Nat.le_refl _) _).drew, .inr ⟨cap, rfl, ?_, (Builtin.zeroCells #[Value.string { data := #[] }] n ++ Builtin.zeroCells #[Value.string { data := #[] }] (cap - n)), World.alloc_heap_new _ _, hc.2, ?_⟩⟩
  ·show w.heap.size < (w.heap.push _).size
   rw [Array.size_push]; omega
  ·rw [Array.size_append, size_zeroCells, size_zeroCells, ← Nat.add_mul]
   rw [show n + (cap - n) = cap by omega]
   exact Nat.mul_one cap

theorem Tryz.mgrowC {L : World → Prop} (n : Nat) (hn : n ≤ 1000000) : Con Tryz.prog L 166 [.sl 0 [.un], .int .i64 n] (.own true 28 0 []) := by
 refine ⟨⟨by kernel_rfl, rfl⟩, fun S w vs hS hL hv => ?_⟩
 obtain ⟨x, vs', rfl, h1, h2⟩ := hv.uncons
 obtain ⟨y, vs', rfl, h3, h4⟩ := h2.uncons
 have : vs' = [] := by cases vs' with | nil => rfl | cons _ _ => have := h4.1; simp at this
 subst this
 cases h3
 have hx : x = .slice none 0 0 := by
  generalize hd : D.sl 0 [.un] = d at h1
  cases h1 with
  | slN => rfl
  | sl n ds b off cap vs hl h1 hn hc hr h => cases hd; exact absurd (h1 .un (List.mem_singleton_self _)) (by simp [D.one])
  | _ => cases hd
 subst hx
 refine (Tryz.mgrow n hn w).mono ?_
 rintro e w' ⟨v, rfl, hb, h⟩
 rcases h with rfl | ⟨cap, arr, rfl, hs, hh, hc, ha⟩
 ·exact ⟨_, rfl, hb, none, fun b hb => (by cases hb), .inl ⟨rfl, rfl, rfl, rfl⟩⟩
 ·refine ⟨_, rfl, hb, some w.heap.size, fun b hb => (by cases hb; exact ⟨Nat.le_refl _, hs⟩), .inr ⟨w.heap.size, cap, arr, rfl, rfl, hh, Nat.zero_le _, hc, ?_, by simp, ?_, fun d hd => (by cases hd), ?_, fun h => (by cases h)⟩⟩
  ·rw [ha, show Tryz.prog.cellsOf 28 = 1 by kernel_rfl]
  ·have e0 : arr.toList.take (0 * Tryz.prog.cellsOf 28) = [] := by rw [Nat.zero_mul]; rfl
   rw [e0]; exact .nil
  ·rintro j (h | ⟨h1, h2, h3⟩)
   ·exact absurd (hS _ _ h) (Nat.lt_irrefl _)
   ·exact ⟨(h3 rfl).1, (h3 rfl).2⟩

set_option maxRecDepth 100000 in
theorem Tryz.mconcat (n m : Nat) (f g : Nat → Rat) (ha : n ≤ 1000) (hb : m ≤ 1000) : Con Tryz.prog Tryz.L 143 [.sl 2 [rowD n f, rowD m g]] (.own true 28 (n + m) (strs (n + m) fun j => if j < n then f j else g (j - n))) := by
 refine rule143 Tryz.hL rfl rfl rfl ?_
 (simp only [pc143, rs143, oU, oC]; refine ev ?_; try exact ⟨⟩)
 refine loopF_of (fun E => ∃ k : Nat, k ≤ 2 ∧ E = [(0, .sl 2 [rowD n f, rowD m g]), (3, .int .i64 (if k = 0 then 0 else if k = 1 then (n : Int) else (n + m : Nat))), (9, .sl 2 [rowD n f, rowD m g]), (10, .int .i64 2), (11, .int .i64 k)])
  (fun E => match lk E 11 with | .int _ i => 2 - i.toNat | _ => 0) ⟨0, Nat.zero_le _, rfl⟩ ?_
 rintro _ ⟨k, hk, rfl⟩
 have e5 : strs n f ++ strs m g = strs (n + m) fun j => if j < n then f j else g (j - n) := by
  show lst _ _ ++ lst _ _ = lst _ _
  rw [lst_app]
  exact lst_congr fun i _ => by by_cases h : i < n <;> simp [h]
 have hk3 : k = 0 ∨ k = 1 ∨ k = 2 := by omega
 rcases hk3 with rfl | rfl | rfl
 ·(refine ev ?_; try exact ⟨⟩)
  exact ⟨fun _ => ⟨by omega, by omega, fun h => by omega, fun _ => ⟨by omega, ⟨1, by omega, by rw [Int.zero_add]; rfl, rfl⟩, by omega⟩⟩, fun h => by omega⟩
 ·(refine ev ?_; try exact ⟨⟩)
  exact ⟨fun _ => ⟨by omega, by omega, fun h => by omega, fun _ => ⟨by omega, ⟨2, by omega, by rw [← Int.natCast_add]; rfl, rfl⟩, by omega⟩⟩, fun h => by omega⟩
 ·(refine ev ?_; try exact ⟨⟩)
  refine ⟨fun h => by omega, fun _ => ?_⟩
  refine callF_of (Tryz.mgrowC (n + m) (by omega)) ?_
  (refine ev ?_; try exact ⟨⟩)
  refine loopF_of (fun E => ∃ k : Nat, k ≤ 2 ∧ E = [(6, if k = 0 then .own true 28 0 [] else if k = 1 then .own true 28 n (strs n f) else .own true 28 (n + m) (strs (n + m) fun j => if j < n then f j else g (j - n))), (25, .sl 2 [rowD n f, rowD m g]), (26, .int .i64 2), (27, .int .i64 k)])
   (fun E => match lk E 27 with | .int _ i => 2 - i.toNat | _ => 0) ⟨0, Nat.zero_le _, rfl⟩ ?_
  rintro _ ⟨k, hk, rfl⟩
  have hk3 : k = 0 ∨ k = 1 ∨ k = 2 := by omega
  rcases hk3 with rfl | rfl | rfl
  ·(refine ev ?_; try exact ⟨⟩)
   exact ⟨fun _ => ⟨by omega, strs_len .., by omega, by omega, by omega, ⟨1, by omega, rfl, rfl⟩, by omega⟩, fun h => by omega⟩
  ·(refine ev ?_; try exact ⟨⟩)
   exact ⟨fun _ => ⟨by omega, strs_len .., by omega, by omega, by omega, ⟨2, by omega, by rw [e5]; rfl, rfl⟩, by omega⟩, fun h => by omega⟩
  ·(refine ev ?_; try exact ⟨⟩)
   exact fun h => by omega
/-- two matrices beside each other -/
theorem Tryz.mbeside (n m k : Nat) (F G : Mtx) (hn : n ≤ 1000) (hm : m ≤ 1000) (hk : k ≤ 1000) : Con Tryz.prog Tryz.L 104 [matD n m F, matD n k G] (.own true 59 n (rowsD n (m + k) (wideM m F G))) := by
 refine rule104 Tryz.hL rfl rfl rfl ?_
 (simp only [pc104, rs104, oU, oC]; refine ev ?_; try exact ⟨⟩)
 refine loopF_of (fun E => ∃ i : Nat, i ≤ n ∧ E = [(1, matD n k G), (5, .own true 59 i (rowsD i (m + k) (wideM m F G))), (8, matD n m F), (9, .int .i64 n), (10, .int .i64 i)])
  (fun E => match lk E 10 with | .int _ i => n - i.toNat | _ => 0) ⟨0, Nat.zero_le _, rfl⟩ ?_
 rintro _ ⟨i, hi, rfl⟩
 simp only [evX, evY, evZ, forall_const, implies_true, initE, stepF, D.clean, mvF, moF, tkF, shF, ariF, ciF, catF, scF, ebF, eqF, eqOk, eqPr, enF, notF, ngF, cvF, csF, csbF, lenF, lenSF, ixF, iaF, PX.slot, iaAF, faF, ldF, D.mem, stF, bxF, mkSF, boundF, fldF, ixAF, mmF2, D.plain, D.isPure, optAll, D.dull, callVF, splice, D.cells, D.one, sets, resT, D.flat, D.flat0, D.simple, Nat.reduceBNe, Nat.reduceLT, reduceIte, Nat.reduceEqDiff, Nat.reduceAdd, Nat.reduceMul, Nat.reduceSub, Nat.reduceLeDiff, Int.reduceToNat, Int.reduceLT, Int.reduceLE, Int.reduceEq, Int.reduceNeg, Int.reduceSub, Int.reduceAdd, Int.reduceMul, stG_own, ldC_rowsD]
 refine ⟨fun h3 => ⟨⟨by omega, by omega, by rw [rowsD_len]; omega⟩, by omega, ⟨by omega, by omega, by rw [rowsD_len]; omega⟩, by omega, ?_⟩, fun h3 => ?_⟩
 ·refine callF_of (Con.flat (Tryz.mconcat m k (F i) (G i) hm hk)) ?_
  (refine ev ?_; try exact ⟨⟩)
  exact ⟨by omega, by omega, by omega, ⟨i + 1, by omega, by rw [rowsD_succ]; rfl, by simp⟩, by omega⟩
 ·obtain rfl : i = n := by omega
  rfl
end Go.Proofs
