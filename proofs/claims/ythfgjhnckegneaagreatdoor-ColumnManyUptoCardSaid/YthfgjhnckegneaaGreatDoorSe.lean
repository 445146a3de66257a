/-
  SEAT 22: ColumnMany over data. Own work.
-/
import Derived.Test.YthfgjhnckegneaaGreatDoorPj
import Derived.Test.YthfgjhnckegneaaGreatDoorSd
import Derived.Test.YthfgjhnckegneaaGreatDoorSc
namespace Go.Proofs
open Go Go.Pi Go.RowKit

theorem run16b : ((List.range 60).all fun i => outS (runJ tab22 1000 (.call 16 [.int .i64 i, .int .i64 1])) (dec2 i)) = true := by kernel_rfl
theorem Tryz.c16b (i : Nat) (h : i < 60) : Con Tryz.prog Tryz.L 16 [.int .i64 i, .int .i64 1] (.str (dec2 i)) := con_run Tryz.hL tab22_ok 1000 (outS_ok (all_range run16b i h))
theorem dec2_inj {i j : Nat} (hi : i < 60) (hj : j < 60) (h : dec2 i = dec2 j) : i = j := by
  have h1 : ((List.range 60).all fun i => (List.range 60).all fun j => (i == j) || (dec2 i != dec2 j)) = true := by kernel_rfl
  have := all_range2 h1 i j hi hj
  rw [h] at this
  simpa using this

/-- the layer of a number -/
def numL (c : UInt8) (i : Nat) : Lay := ⟨c :: dec2 i, [48], []⟩
def colN (c : UInt8) (n : Nat) : List Lay := (List.range n).map (numL c)
theorem colN_length {c : UInt8} {n : Nat} : (colN c n).length = n := by simp [colN]
theorem colN_succ {c : UInt8} {n : Nat} : colN c (n + 1) = colN c n ++ [numL c n] := by simp [colN, List.range_succ]
theorem colN_mem {c : UInt8} {n : Nat} {x : Lay} : x ∈ colN c n ↔ ∃ i, i < n ∧ numL c i = x := by simp [colN]
theorem colN_nd {c : UInt8} : ∀ {n : Nat}, n ≤ 60 → ((colN c n).map Lay.u).Nodup
  | 0, _ => List.nodup_nil
  | n + 1, h => by
    rw [colN_succ, List.map_append, List.nodup_append]
    refine ⟨colN_nd (by omega), by simp, ?_⟩
    intro a ha b hb e
    obtain ⟨x, hx, rfl⟩ := List.mem_map.1 ha
    obtain ⟨i, hi, rfl⟩ := colN_mem.1 hx
    simp only [List.map_cons, List.map_nil, List.mem_singleton] at hb
    subst hb
    have := dec2_inj (by omega) (by omega) (List.cons.inj e).2
    omega
theorem nmN : ((List.range 60).all fun i => nm (97 :: dec2 i) && nm (98 :: dec2 i)) = true := by kernel_rfl
theorem colN_acc {c : UInt8} (hc : c = 97 ∨ c = 98) {n : Nat} (h0 : 0 < n) (h : n ≤ 60) : Acc (colN c n) := by
  refine ⟨by rw [colN_length]; exact h0, by rw [colN_length]; exact h, colN_nd h, fun x hx => ?_⟩
  obtain ⟨i, hi, rfl⟩ := colN_mem.1 hx
  have h1 := all_range nmN i (by omega)
  rw [Bool.and_eq_true] at h1
  have h2 : nm (c :: dec2 i) = true := hc.elim (fun e => e ▸ h1.1) (fun e => e ▸ h1.2)
  have h3 := Tryz.c68g (c :: dec2 i)
  rw [h2] at h3
  exact ⟨Tryz.c62 0 (by omega), fun h => absurd rfl h, h3, ⟨_, by decide, Tryz.c78 0 (by omega)⟩, fun h => absurd rfl h⟩
theorem colN_ne {n m : Nat} : ∀ x ∈ colN 97 n, ∀ y ∈ colN 98 m, y.u ≠ x.u := by
  intro x hx y hy e
  obtain ⟨i, _, rfl⟩ := colN_mem.1 hx
  obtain ⟨j, _, rfl⟩ := colN_mem.1 hy
  exact absurd (List.cons.inj e).1 (by decide)

theorem jR_dis : ∀ (n : Nat) (a b out : List Lay), a.length + b.length ≤ n → (∀ x ∈ a, ∀ y ∈ b, y.u ≠ x.u) → jR n a b out = some (out ++ (a ++ b))
  | 0, a, b, out, hn, h => by
    obtain rfl : a = [] := List.eq_nil_of_length_eq_zero (by omega)
    obtain rfl : b = [] := List.eq_nil_of_length_eq_zero (by omega)
    simp [jR]
  | n + 1, [], [], out, hn, h => by simp [jR]
  | n + 1, [], y :: b, out, hn, h => by
    simp only [List.length_cons, List.length_nil] at hn
    simp only [jR]
    rw [jR_dis n [] b _ (by simp only [List.length_nil]; omega) (fun x hx => by cases hx)]
    simp
  | n + 1, x :: a, [], out, hn, h => by
    simp only [List.length_cons, List.length_nil] at hn
    simp only [jR]
    rw [jR_dis n a [] _ (by simp only [List.length_nil]; omega) (fun x hx y hy => by cases hy)]
    simp
  | n + 1, x :: a, y :: b, out, hn, h => by
    simp only [List.length_cons] at hn
    simp only [jR]
    have h1 : pos (y :: b) x.u < 0 := pos_neg.2 (h x (List.mem_cons_self ..))
    rw [if_neg (by omega), if_pos h1, jR_dis n a (y :: b) _ (by simp only [List.length_cons]; omega) (fun z hz => h z (List.mem_cons_of_mem _ hz))]
    simp
theorem jn_dis {a b : List Lay} (h : ∀ x ∈ a, ∀ y ∈ b, y.u ≠ x.u) : jnE a b = (if 60 < a.length + b.length then 4 else 0) ∧ jnL a b = if 60 < a.length + b.length then [] else a ++ b := by
  have e := jR_dis (a.length + b.length) a b [] (Nat.le_refl _) h
  rw [List.nil_append] at e
  have hc : a.any (cf b) = false := by
    rw [List.any_eq_false]
    intro x hx hcf
    unfold cf at hcf
    rw [List.find?_eq_none.2 fun y hy => by simpa using h x hx y hy] at hcf
    cases hcf
  have h0 : jnE a b = if 60 < a.length + b.length then 4 else 0 := by unfold jnE; rw [if_neg (by simp [hc]), e]; simp only [List.length_append]
  refine ⟨h0, ?_⟩
  unfold jnL
  rw [h0, e]
  by_cases h : 60 < a.length + b.length
  · rw [if_pos h, if_pos h]; rfl
  · rw [if_neg h, if_neg h]; rfl

theorem lays_app {a b : List Lay} : lays a ++ lays b = lays (a ++ b) := by simp [rows]
set_option maxRecDepth 100000 in
theorem Tryz.c19 (a b : List Lay) (ha : a.length ≤ 1000) (hb : b.length ≤ 1000) : Con Tryz.prog Tryz.L 19 [.sl 2 [.sl a.length (lays a), .sl b.length (lays b)]] (.own true 39 (a.length + b.length) (lays (a ++ b))) := by
  refine rule19 Tryz.hL rfl rfl rfl ?_
  simp only [pc19, rs19, evA, evB, evC, forall_const, implies_true, initE, stepF, D.clean, mvF, moF, tkF, shF, ariF, ciF, catF, scF, ebF, eqF, eqOk, eqPr, enF, notF, ngF, cvF, csF, csbF, lenF, lenSF, ixF, iaF, PX.slot, iaAF, faF, ldF, D.mem, stF, bxF, mkSF, boundF, fldF, mmF2, D.plain, D.isPure, optAll, D.dull, callVF, splice, D.cells, D.one, sets, resT, D.flat, D.flat0, D.simple, Nat.reduceBNe, Nat.reduceLT, reduceIte, Nat.reduceEqDiff, Nat.reduceAdd, Nat.reduceMul, Nat.reduceSub, Nat.reduceLeDiff, Int.reduceToNat, Int.reduceLT, Int.reduceLE, Int.reduceEq, Int.reduceNeg, Int.reduceSub, Int.reduceAdd, Int.reduceMul]
  refine loopF_of (fun E => ∃ k : Nat, k ≤ 2 ∧ E = [(0, .sl 2 [.sl a.length (lays a), .sl b.length (lays b)]), (3, .int .i64 (if k = 0 then 0 else if k = 1 then (a.length : Int) else (a.length + b.length : Nat))), (9, .sl 2 [.sl a.length (lays a), .sl b.length (lays b)]), (10, .int .i64 2), (11, .int .i64 k)])
    (fun E => match lk E 11 with | .int _ i => 2 - i.toNat | _ => 0) ⟨0, Nat.zero_le _, rfl⟩ ?_
  rintro _ ⟨k, hk, rfl⟩
  have hk3 : k = 0 ∨ k = 1 ∨ k = 2 := by omega
  rcases hk3 with rfl | rfl | rfl
  · simp only [evA, evB, evC, forall_const, implies_true, initE, stepF, D.clean, mvF, moF, tkF, shF, ariF, ciF, catF, scF, ebF, eqF, eqOk, eqPr, enF, notF, ngF, cvF, csF, csbF, lenF, lenSF, ixF, iaF, PX.slot, iaAF, faF, ldF, D.mem, stF, bxF, mkSF, boundF, fldF, mmF2, D.plain, D.isPure, optAll, D.dull, callVF, splice, D.cells, D.one, sets, resT, D.flat, D.flat0, D.simple, Nat.reduceBNe, Nat.reduceLT, reduceIte, Nat.reduceEqDiff, Nat.reduceAdd, Nat.reduceMul, Nat.reduceSub, Nat.reduceLeDiff, Int.reduceToNat, Int.reduceLT, Int.reduceLE, Int.reduceEq, Int.reduceNeg, Int.reduceSub, Int.reduceAdd, Int.reduceMul]
    exact ⟨fun _ => ⟨by omega, by omega, fun h => by omega, fun _ => ⟨by omega, ⟨1, by omega, by rw [Int.zero_add]; rfl, rfl⟩, by omega⟩⟩, fun h => by omega⟩
  · simp only [evA, evB, evC, forall_const, implies_true, initE, stepF, D.clean, mvF, moF, tkF, shF, ariF, ciF, catF, scF, ebF, eqF, eqOk, eqPr, enF, notF, ngF, cvF, csF, csbF, lenF, lenSF, ixF, iaF, PX.slot, iaAF, faF, ldF, D.mem, stF, bxF, mkSF, boundF, fldF, mmF2, D.plain, D.isPure, optAll, D.dull, callVF, splice, D.cells, D.one, sets, resT, D.flat, D.flat0, D.simple, Nat.reduceBNe, Nat.reduceLT, reduceIte, Nat.reduceEqDiff, Nat.reduceAdd, Nat.reduceMul, Nat.reduceSub, Nat.reduceLeDiff, Int.reduceToNat, Int.reduceLT, Int.reduceLE, Int.reduceEq, Int.reduceNeg, Int.reduceSub, Int.reduceAdd, Int.reduceMul]
    exact ⟨fun _ => ⟨by omega, by omega, fun h => by omega, fun _ => ⟨by omega, ⟨2, by omega, by rw [← Int.natCast_add]; rfl, rfl⟩, by omega⟩⟩, fun h => by omega⟩
  · simp only [evA, evB, evC, forall_const, implies_true, initE, stepF, D.clean, mvF, moF, tkF, shF, ariF, ciF, catF, scF, ebF, eqF, eqOk, eqPr, enF, notF, ngF, cvF, csF, csbF, lenF, lenSF, ixF, iaF, PX.slot, iaAF, faF, ldF, D.mem, stF, bxF, mkSF, boundF, fldF, mmF2, D.plain, D.isPure, optAll, D.dull, callVF, splice, D.cells, D.one, sets, resT, D.flat, D.flat0, D.simple, Nat.reduceBNe, Nat.reduceLT, reduceIte, Nat.reduceEqDiff, Nat.reduceAdd, Nat.reduceMul, Nat.reduceSub, Nat.reduceLeDiff, Int.reduceToNat, Int.reduceLT, Int.reduceLE, Int.reduceEq, Int.reduceNeg, Int.reduceSub, Int.reduceAdd, Int.reduceMul]
    refine ⟨fun h => by omega, fun _ => ?_⟩
    refine callF_of (con57 (a.length + b.length) (by omega)) ?_
    simp only [evA, evB, evC, forall_const, implies_true, initE, stepF, D.clean, mvF, moF, tkF, shF, ariF, ciF, catF, scF, ebF, eqF, eqOk, eqPr, enF, notF, ngF, cvF, csF, csbF, lenF, lenSF, ixF, iaF, PX.slot, iaAF, faF, ldF, D.mem, stF, bxF, mkSF, boundF, fldF, mmF2, D.plain, D.isPure, optAll, D.dull, callVF, splice, D.cells, D.one, sets, resT, D.flat, D.flat0, D.simple, Nat.reduceBNe, Nat.reduceLT, reduceIte, Nat.reduceEqDiff, Nat.reduceAdd, Nat.reduceMul, Nat.reduceSub, Nat.reduceLeDiff, Int.reduceToNat, Int.reduceLT, Int.reduceLE, Int.reduceEq, Int.reduceNeg, Int.reduceSub, Int.reduceAdd, Int.reduceMul]
    refine loopF_of (fun E => ∃ k : Nat, k ≤ 2 ∧ E = [(6, if k = 0 then .own true 39 0 [] else if k = 1 then .own true 39 a.length (lays a) else .own true 39 (a.length + b.length) (lays (a ++ b))), (25, .sl 2 [.sl a.length (lays a), .sl b.length (lays b)]), (26, .int .i64 2), (27, .int .i64 k)])
      (fun E => match lk E 27 with | .int _ i => 2 - i.toNat | _ => 0) ⟨0, Nat.zero_le _, rfl⟩ ?_
    rintro _ ⟨k, hk, rfl⟩
    have hk3 : k = 0 ∨ k = 1 ∨ k = 2 := by omega
    rcases hk3 with rfl | rfl | rfl
    · simp only [evA, evB, evC, forall_const, implies_true, initE, stepF, D.clean, mvF, moF, tkF, shF, ariF, ciF, catF, scF, ebF, eqF, eqOk, eqPr, enF, notF, ngF, cvF, csF, csbF, lenF, lenSF, ixF, iaF, PX.slot, iaAF, faF, ldF, D.mem, stF, bxF, mkSF, boundF, fldF, mmF2, D.plain, D.isPure, optAll, D.dull, callVF, splice, D.cells, D.one, sets, resT, D.flat, D.flat0, D.simple, Nat.reduceBNe, Nat.reduceLT, reduceIte, Nat.reduceEqDiff, Nat.reduceAdd, Nat.reduceMul, Nat.reduceSub, Nat.reduceLeDiff, Int.reduceToNat, Int.reduceLT, Int.reduceLE, Int.reduceEq, Int.reduceNeg, Int.reduceSub, Int.reduceAdd, Int.reduceMul]
      exact ⟨fun _ => ⟨by omega, rows_length Lay.d_len _, by omega, by omega, by omega, ⟨1, by omega, rfl, rfl⟩, by omega⟩, fun h => by omega⟩
    · simp only [evA, evB, evC, forall_const, implies_true, initE, stepF, D.clean, mvF, moF, tkF, shF, ariF, ciF, catF, scF, ebF, eqF, eqOk, eqPr, enF, notF, ngF, cvF, csF, csbF, lenF, lenSF, ixF, iaF, PX.slot, iaAF, faF, ldF, D.mem, stF, bxF, mkSF, boundF, fldF, mmF2, D.plain, D.isPure, optAll, D.dull, callVF, splice, D.cells, D.one, sets, resT, D.flat, D.flat0, D.simple, Nat.reduceBNe, Nat.reduceLT, reduceIte, Nat.reduceEqDiff, Nat.reduceAdd, Nat.reduceMul, Nat.reduceSub, Nat.reduceLeDiff, Int.reduceToNat, Int.reduceLT, Int.reduceLE, Int.reduceEq, Int.reduceNeg, Int.reduceSub, Int.reduceAdd, Int.reduceMul]
      exact ⟨fun _ => ⟨by omega, rows_length Lay.d_len _, by omega, by omega, by omega, ⟨2, by omega, by rw [lays_app]; rfl, rfl⟩, by omega⟩, fun h => by omega⟩
    · simp only [evA, evB, evC, forall_const, implies_true, initE, stepF, D.clean, mvF, moF, tkF, shF, ariF, ciF, catF, scF, ebF, eqF, eqOk, eqPr, enF, notF, ngF, cvF, csF, csbF, lenF, lenSF, ixF, iaF, PX.slot, iaAF, faF, ldF, D.mem, stF, bxF, mkSF, boundF, fldF, mmF2, D.plain, D.isPure, optAll, D.dull, callVF, splice, D.cells, D.one, sets, resT, D.flat, D.flat0, D.simple, Nat.reduceBNe, Nat.reduceLT, reduceIte, Nat.reduceEqDiff, Nat.reduceAdd, Nat.reduceMul, Nat.reduceSub, Nat.reduceLeDiff, Int.reduceToNat, Int.reduceLT, Int.reduceLE, Int.reduceEq, Int.reduceNeg, Int.reduceSub, Int.reduceAdd, Int.reduceMul]
      exact fun h => by omega

set_option maxRecDepth 100000 in
set_option maxHeartbeats 2000000 in
theorem Tryz.c4 (n m : Int) (hn : isByte n) (hm : isByte m) : Con Tryz.prog Tryz.L 4 [.int .u8 n, .int .u8 m] (.bool true) := by
  obtain ⟨N, hN⟩ : ∃ N : Nat, n.tmod 60 = N := ⟨(n % 60).toNat, by rw [tmod_nn hn.1]; omega⟩
  obtain ⟨M, hM⟩ : ∃ M : Nat, m.tmod 60 = M := ⟨(m % 60).toNat, by rw [tmod_nn hm.1]; omega⟩
  have hN6 : N < 60 := by have := tmod_nn (y := 60) hn.1; omega
  have hM6 : M < 60 := by have := tmod_nn (y := 60) hm.1; omega
  refine rule4 Tryz.hL rfl rfl rfl ?_
  simp only [pc4, rs4, evA, evB, evC, forall_const, implies_true, initE, stepF, D.clean, mvF, moF, tkF, shF, ariF, ciF, catF, scF, ebF, eqF, eqOk, eqPr, enF, notF, ngF, cvF, csF, csbF, lenF, lenSF, ixF, iaF, PX.slot, iaAF, faF, ldF, D.mem, stF, bxF, mkSF, boundF, fldF, mmF2, D.plain, D.isPure, optAll, D.dull, callVF, splice, D.cells, D.one, sets, resT, D.flat, D.flat0, D.simple, Nat.reduceBNe, Nat.reduceLT, reduceIte, Nat.reduceEqDiff, Nat.reduceAdd, Nat.reduceMul, Nat.reduceSub, Nat.reduceLeDiff, Int.reduceToNat, Int.reduceLT, Int.reduceLE, Int.reduceEq, Int.reduceNeg, Int.reduceSub, Int.reduceAdd, Int.reduceMul]
  refine callF_of Tryz.c11 ?_
  simp only [evA, evB, evC, forall_const, implies_true, initE, stepF, D.clean, mvF, moF, tkF, shF, ariF, ciF, catF, scF, ebF, eqF, eqOk, eqPr, enF, notF, ngF, cvF, csF, csbF, lenF, lenSF, ixF, iaF, PX.slot, iaAF, faF, ldF, D.mem, stF, bxF, mkSF, boundF, fldF, mmF2, D.plain, D.isPure, optAll, D.dull, callVF, splice, D.cells, D.one, sets, resT, D.flat, D.flat0, D.simple, Nat.reduceBNe, Nat.reduceLT, reduceIte, Nat.reduceEqDiff, Nat.reduceAdd, Nat.reduceMul, Nat.reduceSub, Nat.reduceLeDiff, Int.reduceToNat, Int.reduceLT, Int.reduceLE, Int.reduceEq, Int.reduceNeg, Int.reduceSub, Int.reduceAdd, Int.reduceMul, hN, hM]
  refine ⟨by omega, by omega, ?_⟩
  have dlen : ∀ i, i < 60 → (dec2 i).length ≤ 2 := fun i _ => by unfold dec2; split <;> simp
  refine loopF_of (fun E => ∃ k : Nat, k ≤ N + 1 ∧ E = [(1, .int .u8 m), (5, .own true 39 k (lays (colN 97 k))), (6, .own true 39 0 []), (16, .int .i64 (1 + N)), (17, .int .i64 k)])
    (fun E => match lk E 17 with | .int _ i => N + 1 - i.toNat | _ => 0) ⟨0, Nat.zero_le _, rfl⟩ ?_
  rintro _ ⟨k, hk, rfl⟩
  simp only [evA, evB, evC, forall_const, implies_true, initE, stepF, D.clean, mvF, moF, tkF, shF, ariF, ciF, catF, scF, ebF, eqF, eqOk, eqPr, enF, notF, ngF, cvF, csF, csbF, lenF, lenSF, ixF, iaF, PX.slot, iaAF, faF, ldF, D.mem, stF, bxF, mkSF, boundF, fldF, mmF2, D.plain, D.isPure, optAll, D.dull, callVF, splice, D.cells, D.one, sets, resT, D.flat, D.flat0, D.simple, Nat.reduceBNe, Nat.reduceLT, reduceIte, Nat.reduceEqDiff, Nat.reduceAdd, Nat.reduceMul, Nat.reduceSub, Nat.reduceLeDiff, Int.reduceToNat, Int.reduceLT, Int.reduceLE, Int.reduceEq, Int.reduceNeg, Int.reduceSub, Int.reduceAdd, Int.reduceMul, hN, hM]
  refine ⟨fun h1 => ?_, fun h1 => ?_⟩
  · refine callF_of (Tryz.c16b k (by omega)) ?_
    simp only [evA, evB, evC, forall_const, implies_true, initE, stepF, D.clean, mvF, moF, tkF, shF, ariF, ciF, catF, scF, ebF, eqF, eqOk, eqPr, enF, notF, ngF, cvF, csF, csbF, lenF, lenSF, ixF, iaF, PX.slot, iaAF, faF, ldF, D.mem, stF, bxF, mkSF, boundF, fldF, mmF2, D.plain, D.isPure, optAll, D.dull, callVF, splice, D.cells, D.one, sets, resT, D.flat, D.flat0, D.simple, Nat.reduceBNe, Nat.reduceLT, reduceIte, Nat.reduceEqDiff, Nat.reduceAdd, Nat.reduceMul, Nat.reduceSub, Nat.reduceLeDiff, Int.reduceToNat, Int.reduceLT, Int.reduceLE, Int.reduceEq, Int.reduceNeg, Int.reduceSub, Int.reduceAdd, Int.reduceMul]
    have := dlen k (by omega)
    refine ⟨by omega, by omega, by omega, by omega, ⟨k + 1, by omega, ?_, rfl⟩, by omega⟩
    rw [colN_succ, lays_snoc]; rfl
  · obtain rfl : k = N + 1 := by omega
    refine ⟨by omega, by omega, ?_⟩
    refine loopF_of (fun E => ∃ k : Nat, k ≤ M + 1 ∧ E = [(5, .own true 39 (N + 1) (lays (colN 97 (N + 1)))), (6, .own true 39 k (lays (colN 98 k))), (31, .int .i64 (1 + M)), (32, .int .i64 k)])
      (fun E => match lk E 32 with | .int _ i => M + 1 - i.toNat | _ => 0) ⟨0, Nat.zero_le _, rfl⟩ ?_
    rintro _ ⟨k, hk, rfl⟩
    simp only [evA, evB, evC, forall_const, implies_true, initE, stepF, D.clean, mvF, moF, tkF, shF, ariF, ciF, catF, scF, ebF, eqF, eqOk, eqPr, enF, notF, ngF, cvF, csF, csbF, lenF, lenSF, ixF, iaF, PX.slot, iaAF, faF, ldF, D.mem, stF, bxF, mkSF, boundF, fldF, mmF2, D.plain, D.isPure, optAll, D.dull, callVF, splice, D.cells, D.one, sets, resT, D.flat, D.flat0, D.simple, Nat.reduceBNe, Nat.reduceLT, reduceIte, Nat.reduceEqDiff, Nat.reduceAdd, Nat.reduceMul, Nat.reduceSub, Nat.reduceLeDiff, Int.reduceToNat, Int.reduceLT, Int.reduceLE, Int.reduceEq, Int.reduceNeg, Int.reduceSub, Int.reduceAdd, Int.reduceMul, hN, hM]
    refine ⟨fun h1 => ?_, fun h1 => ?_⟩
    · refine callF_of (Tryz.c16b k (by omega)) ?_
      simp only [evA, evB, evC, forall_const, implies_true, initE, stepF, D.clean, mvF, moF, tkF, shF, ariF, ciF, catF, scF, ebF, eqF, eqOk, eqPr, enF, notF, ngF, cvF, csF, csbF, lenF, lenSF, ixF, iaF, PX.slot, iaAF, faF, ldF, D.mem, stF, bxF, mkSF, boundF, fldF, mmF2, D.plain, D.isPure, optAll, D.dull, callVF, splice, D.cells, D.one, sets, resT, D.flat, D.flat0, D.simple, Nat.reduceBNe, Nat.reduceLT, reduceIte, Nat.reduceEqDiff, Nat.reduceAdd, Nat.reduceMul, Nat.reduceSub, Nat.reduceLeDiff, Int.reduceToNat, Int.reduceLT, Int.reduceLE, Int.reduceEq, Int.reduceNeg, Int.reduceSub, Int.reduceAdd, Int.reduceMul]
      have := dlen k (by omega)
      refine ⟨by omega, by omega, by omega, by omega, ⟨k + 1, by omega, ?_, rfl⟩, by omega⟩
      rw [colN_succ, lays_snoc]; rfl
    · obtain rfl : k = M + 1 := by omega
      have hA := colN_acc (.inl rfl : (97 : UInt8) = 97 ∨ _) (show 0 < N + 1 by omega) (by omega)
      have hB := colN_acc (.inr rfl : (98 : UInt8) = 97 ∨ _) (show 0 < M + 1 by omega) (by omega)
      have hd := jn_dis (colN_ne (n := N + 1) (m := M + 1))
      have la : (colN 97 (N + 1)).length = N + 1 := colN_length
      have lb : (colN 98 (M + 1)).length = M + 1 := colN_length
      generalize colN 97 (N + 1) = a at hA hd la ⊢
      generalize colN 98 (M + 1) = b at hB hd lb ⊢
      rw [← la, ← lb]
      have hcat := Tryz.c19 a b (by omega) (by omega)
      refine callF_of (Tryz.c17 a b (by omega) hA.check hB.check) ?_
      simp only [evA, evB, evC, forall_const, implies_true, initE, stepF, D.clean, mvF, moF, tkF, shF, ariF, ciF, catF, scF, ebF, eqF, eqOk, eqPr, enF, notF, ngF, cvF, csF, csbF, lenF, lenSF, ixF, iaF, PX.slot, iaAF, faF, ldF, D.mem, stF, bxF, mkSF, boundF, fldF, mmF2, D.plain, D.isPure, optAll, D.dull, callVF, splice, D.cells, D.one, sets, resT, D.flat, D.flat0, D.simple, Nat.reduceBNe, Nat.reduceLT, reduceIte, Nat.reduceEqDiff, Nat.reduceAdd, Nat.reduceMul, Nat.reduceSub, Nat.reduceLeDiff, Int.reduceToNat, Int.reduceLT, Int.reduceLE, Int.reduceEq, Int.reduceNeg, Int.reduceSub, Int.reduceAdd, Int.reduceMul]
      refine ⟨by omega, fun h6 => ?_, fun h6 => ?_⟩
      · rw [if_pos (by omega), if_pos (by omega)] at hd
        rw [hd.1, hd.2]
        exact ⟨fun _ => dB_iff.2 rfl, fun h => h rfl⟩
      · rw [if_neg (by omega), if_neg (by omega)] at hd
        rw [hd.1, hd.2]
        simp only [evA, evB, evC, forall_const, implies_true, initE, stepF, D.clean, mvF, moF, tkF, shF, ariF, ciF, catF, scF, ebF, eqF, eqOk, eqPr, enF, notF, ngF, cvF, csF, csbF, lenF, lenSF, ixF, iaF, PX.slot, iaAF, faF, ldF, D.mem, stF, bxF, mkSF, boundF, fldF, mmF2, D.plain, D.isPure, optAll, D.dull, callVF, splice, D.cells, D.one, sets, resT, D.flat, D.flat0, D.simple, Nat.reduceBNe, Nat.reduceLT, reduceIte, Nat.reduceEqDiff, Nat.reduceAdd, Nat.reduceMul, Nat.reduceSub, Nat.reduceLeDiff, Int.reduceToNat, Int.reduceLT, Int.reduceLE, Int.reduceEq, Int.reduceNeg, Int.reduceSub, Int.reduceAdd, Int.reduceMul]
        have h18 := Tryz.c18 (a ++ b) (by rw [List.length_append]; omega)
        rw [List.length_append] at h18 ⊢
        refine callF_of hcat ?_
        simp only [evA, evB, evC, forall_const, implies_true, initE, stepF, D.clean, mvF, moF, tkF, shF, ariF, ciF, catF, scF, ebF, eqF, eqOk, eqPr, enF, notF, ngF, cvF, csF, csbF, lenF, lenSF, ixF, iaF, PX.slot, iaAF, faF, ldF, D.mem, stF, bxF, mkSF, boundF, fldF, mmF2, D.plain, D.isPure, optAll, D.dull, callVF, splice, D.cells, D.one, sets, resT, D.flat, D.flat0, D.simple, Nat.reduceBNe, Nat.reduceLT, reduceIte, Nat.reduceEqDiff, Nat.reduceAdd, Nat.reduceMul, Nat.reduceSub, Nat.reduceLeDiff, Int.reduceToNat, Int.reduceLT, Int.reduceLE, Int.reduceEq, Int.reduceNeg, Int.reduceSub, Int.reduceAdd, Int.reduceMul]
        refine callF_of h18 ?_
        simp only [evA, evB, evC, forall_const, implies_true, initE, stepF, D.clean, mvF, moF, tkF, shF, ariF, ciF, catF, scF, ebF, eqF, eqOk, eqPr, enF, notF, ngF, cvF, csF, csbF, lenF, lenSF, ixF, iaF, PX.slot, iaAF, faF, ldF, D.mem, stF, bxF, mkSF, boundF, fldF, mmF2, D.plain, D.isPure, optAll, D.dull, callVF, splice, D.cells, D.one, sets, resT, D.flat, D.flat0, D.simple, Nat.reduceBNe, Nat.reduceLT, reduceIte, Nat.reduceEqDiff, Nat.reduceAdd, Nat.reduceMul, Nat.reduceSub, Nat.reduceLeDiff, Int.reduceToNat, Int.reduceLT, Int.reduceLE, Int.reduceEq, Int.reduceNeg, Int.reduceSub, Int.reduceAdd, Int.reduceMul]
end Go.Proofs
