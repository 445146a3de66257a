/-
  SEAT 22: relations. Own work.
-/
import Derived.Test.YthfgjhnckegneaaGreatDoorS22Q
namespace Go.Proofs
open Go Go.Pi Go.RowKit

theorem ldC_byD {l : List UInt8} {k t : Nat} {N : EP} {E : Env} : ldC false 1 (List.take 1 (List.drop k (byD l))) t N E = (∃ x, l[k]? = some x ∧ N (st1 E t (.int .u8 x.toNat))) := by
  unfold ldC
  have e0 : List.drop k (byD l) = byD (l.drop k) := by simp [byD]
  rw [e0]
  cases h : l[k]? with
  | none =>
    have hk : l.length ≤ k := by simpa using h
    rw [List.drop_eq_nil_of_le hk]; simp [ofCells, byD]
  | some x => rw [drop_cons h]; simp [ofCells, byD, D.one]

/-- a letter of a name: its first, or another one -/
def okP (k n : Nat) : Prop := (97 ≤ n ∧ n ≤ 122) ∨ (65 ≤ n ∧ n ≤ 90) ∨ (k ≠ 0 ∧ ((48 ≤ n ∧ n ≤ 57) ∨ n = 95))
instance (k n : Nat) : Decidable (okP k n) := by unfold okP; infer_instance
def nmA : List UInt8 → Nat → Bool
  | [], _ => true
  | c :: r, k => decide (okP k c.toNat) && nmA r (k + 1)
def nm (s : List UInt8) : Bool := s != [] && decide (s.length ≤ 32) && nmA s 0

set_option maxHeartbeats 2000000 in
theorem Tryz.c68g (s : List UInt8) : Con Tryz.prog Tryz.L 68 [.str s] (.bool (nm s)) := by
  refine rule68 Tryz.hL rfl rfl rfl ?_
  simp only [pc68, rs68, initE, wC_seq, wC_reg, wC_cnd, wC_blk, wC_loop, wC_exit, wC_skip, wC_ret, wC_bad, GB_eq, zap_nil, zap_cons, lgF_g, lgF_b, sgOF_g, sgOF_b, sgPF_g, sgPF_b, Nat.reduceBNe, Nat.reduceLT, wC_rfn, wC_cus, asgK_nrm, bodK_nrm, wE_nil, wE_none, wE_st, wE_some, regK_eq, seqK_nrm, seqK_exit, seqK_ret, blkK_nrm, blkK_exit, blkK_ret, loopK_nrm, loopK_exit, loopK_ret,
    cndF_t, cndF_f, cndF_p, grdF_t, grdF_f, grdF_s, grdF_pt, grdF_pf, stepF, ev_v, ev_k, ev_o, oev_al, oev_int, oev_sl, oev_str, oev_agg, oev_pt, oev_bool, lk_cons, lk_nil, st1_cons, st1_nil, keepE_cons, keepE_nil, D.clean, reduceIte, Nat.reduceEqDiff,
    putF_int, putF_bool, putF_str, putF_sl, putF_agg, putF_tup, putF_pt, putF_clo, putF_err, mvF, moF, tkF, shF, ariF, ciF, catF, scF, ebF, eqF, eqOk, eqPr, enF, notF, ngF, cvF, csF, csbF, cbsF_s, cbsF_o, lenF, lenSF, ixF, iaF, PX.slot, iaAF, atV, atO, faF, ldF, ldC_ints, ldC_ints', ldC_aggc, ldC_cons, D.mem, stF, stG_ints, stG_box, bxF, mkSF, appF_oo, appF_os, ints_app, ints_snoc, ints_length, ints_nil, cut_ints, slcF_o, slcF_s, slc2_eq, slSF_eq, slS2_eq, boundF, Option.map_some, Option.map_none, mkfF_eq, capt_eq, captD_box, captD_pt, extF_eq, extO_eq, List.getElem?_cons_zero, List.getElem?_cons_succ, pickF_t, pickF_f, pickF_p, fldF, mmF2,
    lend_eq, List.map_cons, List.map_nil, D.plain, D.isPure, optAll, dulls_nil, dulls_v, dulls_k, dulls_o, D.dull, callVF, bldF_eq, bldSF_eq, fillD_nil, fillD_cons, splice, D.cells, D.one, List.length_cons, List.length_nil, List.all_cons, List.all_nil, Bool.and_self, Bool.and_true, Bool.true_and, List.take_succ_cons, List.take_zero, List.drop_succ_cons, List.drop_zero, List.nil_append, List.cons_append, List.append_nil, List.drop_nil, List.take_nil, List.replicate_succ, List.replicate_zero, List.flatten_cons, List.flatten_nil, Nat.reduceAdd, Nat.reduceMul, Nat.reduceSub, Nat.reduceLeDiff, Nat.zero_add, Nat.add_zero, Nat.mul_one, Nat.one_mul, Nat.zero_mul, Nat.zero_le, Int.toNat_natCast, Int.toNat_zero, Int.reduceToNat, Nat.sub_zero, Nat.le_refl,
    sets, List.cons.injEq, inR_i64, inR_u64, inR_u32, inR_i32, inR_u8, dB_True, dB_False, dB_neg, dB_beq_true, dB_beq_false, maxLen_eq, true_and, and_true, Bool.not_true, Bool.not_false, Bool.false_eq_true, Bool.not_eq_true, retQ_nrm, retQ_ret, resD_t, resT, Option.some.injEq, D.sl.injEq, D.int.injEq, D.bool.injEq, and_self, ne_eq, not_false_eq_true, not_true_eq_false, forall_const, D.flat, D.flat0, D.simple, Int.reduceLT, Int.reduceLE, Int.reduceEq, Int.reduceNeg, Int.reduceSub, Int.reduceAdd, Int.reduceMul, Int.ofNat_eq_natCast, imp_self, implies_true, false_implies]
  refine ⟨fun h0 => ⟨fun h1 => by simp [nm]; omega, fun h1 => ?_⟩, fun h => by simp [nm, h]⟩
  have hnm : nm s = nmA s 0 := by simp [nm, h0]; omega
  refine loopF_of (fun E => ∃ k : Nat, k ≤ s.length ∧ nm s = nmA (s.drop k) k ∧ E = [(15, D.sl s.length (byD s)), (16, D.int IntKind.i64 s.length), (17, D.int IntKind.i64 k)])
    (fun E => match lk E 17 with | .int _ i => s.length - i.toNat | _ => 0) ⟨0, Nat.zero_le _, hnm, rfl⟩ ?_
  rintro _ ⟨k, hk, hi, rfl⟩
  simp only [initE, wC_seq, wC_reg, wC_cnd, wC_blk, wC_loop, wC_exit, wC_skip, wC_ret, wC_bad, GB_eq, zap_nil, zap_cons, lgF_g, lgF_b, sgOF_g, sgOF_b, sgPF_g, sgPF_b, Nat.reduceBNe, Nat.reduceLT, wC_rfn, wC_cus, asgK_nrm, bodK_nrm, wE_nil, wE_none, wE_st, wE_some, regK_eq, seqK_nrm, seqK_exit, seqK_ret, blkK_nrm, blkK_exit, blkK_ret, loopK_nrm, loopK_exit, loopK_ret,
    cndF_t, cndF_f, cndF_p, grdF_t, grdF_f, grdF_s, grdF_pt, grdF_pf, stepF, ev_v, ev_k, ev_o, oev_al, oev_int, oev_sl, oev_str, oev_agg, oev_pt, oev_bool, lk_cons, lk_nil, st1_cons, st1_nil, keepE_cons, keepE_nil, D.clean, reduceIte, Nat.reduceEqDiff,
    putF_int, putF_bool, putF_str, putF_sl, putF_agg, putF_tup, putF_pt, putF_clo, putF_err, mvF, moF, tkF, shF, ariF, ciF, catF, scF, ebF, eqF, eqOk, eqPr, enF, notF, ngF, cvF, csF, csbF, cbsF_s, cbsF_o, lenF, lenSF, ixF, iaF, PX.slot, iaAF, atV, atO, faF, ldF, ldC_ints, ldC_ints', ldC_aggc, ldC_cons, D.mem, stF, stG_ints, stG_box, bxF, mkSF, appF_oo, appF_os, ints_app, ints_snoc, ints_length, ints_nil, cut_ints, slcF_o, slcF_s, slc2_eq, slSF_eq, slS2_eq, boundF, Option.map_some, Option.map_none, mkfF_eq, capt_eq, captD_box, captD_pt, extF_eq, extO_eq, List.getElem?_cons_zero, List.getElem?_cons_succ, pickF_t, pickF_f, pickF_p, fldF, mmF2,
    lend_eq, List.map_cons, List.map_nil, D.plain, D.isPure, optAll, dulls_nil, dulls_v, dulls_k, dulls_o, D.dull, callVF, bldF_eq, bldSF_eq, fillD_nil, fillD_cons, splice, D.cells, D.one, List.length_cons, List.length_nil, List.all_cons, List.all_nil, Bool.and_self, Bool.and_true, Bool.true_and, List.take_succ_cons, List.take_zero, List.drop_succ_cons, List.drop_zero, List.nil_append, List.cons_append, List.append_nil, List.drop_nil, List.take_nil, List.replicate_succ, List.replicate_zero, List.flatten_cons, List.flatten_nil, Nat.reduceAdd, Nat.reduceMul, Nat.reduceSub, Nat.reduceLeDiff, Nat.zero_add, Nat.add_zero, Nat.mul_one, Nat.one_mul, Nat.zero_mul, Nat.zero_le, Int.toNat_natCast, Int.toNat_zero, Int.reduceToNat, Nat.sub_zero, Nat.le_refl,
    sets, List.cons.injEq, inR_i64, inR_u64, inR_u32, inR_i32, inR_u8, dB_True, dB_False, dB_neg, dB_beq_true, dB_beq_false, maxLen_eq, true_and, and_true, Bool.not_true, Bool.not_false, Bool.false_eq_true, Bool.not_eq_true, retQ_nrm, retQ_ret, resD_t, resT, Option.some.injEq, D.sl.injEq, D.int.injEq, D.bool.injEq, and_self, ne_eq, not_false_eq_true, not_true_eq_false, forall_const, D.flat, D.flat0, D.simple, Int.reduceLT, Int.reduceLE, Int.reduceEq, Int.reduceNeg, Int.reduceSub, Int.reduceAdd, Int.reduceMul, Int.ofNat_eq_natCast, imp_self, implies_true, false_implies, ldC_byD]
  refine ⟨fun h2 => ?_, fun h2 => ?_⟩
  · have hx : s[k]? = some (s[k]'(by omega)) := List.getElem?_eq_getElem (by omega)
    generalize s[k]'(by omega) = x at hx
    rw [drop_cons hx] at hi
    simp only [nmA] at hi
    refine ⟨⟨by omega, by omega, by simp [byD]; omega⟩, x, hx, ?_⟩
    have yes : okP k x.toNat → nm s = nmA (s.drop (k + 1)) (k + 1) := fun h => by rw [hi, decide_eq_true h]; rfl
    have no : ¬okP k x.toNat → false = nm s := fun h => by rw [hi, decide_eq_false h]; rfl
    unfold okP at yes no
    clear hi hx hnm
    generalize x.toNat = n at yes no
    have fin : (97 ≤ n ∧ n ≤ 122 ∨ 65 ≤ n ∧ n ≤ 90 ∨ k ≠ 0 ∧ (48 ≤ n ∧ n ≤ 57 ∨ n = 95)) → (-9223372036854775808 ≤ (k : Int) + 1 ∧ (k : Int) + 1 ≤ 9223372036854775807) ∧
        (∃ k1 : Nat, k1 ≤ s.length ∧ nm s = nmA (List.drop k1 s) k1 ∧ (17, D.int IntKind.i64 ((k : Int) + 1)) = (17, D.int IntKind.i64 k1)) ∧ s.length - ((k : Int) + 1).toNat < s.length - k := fun h => ⟨by omega, ⟨k + 1, by omega, yes h, rfl⟩, by omega⟩
    clear yes
    repeat' first
      | intro _
      | exact no (by omega)
      | exact fin (by omega)
      | apply And.intro
  · have : k = s.length := by omega
    subst this
    rw [hi]; simp [nmA]
end Go.Proofs
