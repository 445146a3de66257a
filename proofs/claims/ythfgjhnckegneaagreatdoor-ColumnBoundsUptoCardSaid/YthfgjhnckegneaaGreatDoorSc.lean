/-
  SEAT 22: more contracts of the library; column.Text. Own work.
-/
import Derived.Test.YthfgjhnckegneaaGreatDoorEa
import Derived.Test.YthfgjhnckegneaaGreatDoorEb
import Derived.Test.YthfgjhnckegneaaGreatDoorSa
import Derived.Test.YthfgjhnckegneaaGreatDoorSb
import Derived.Test.YthfgjhnckegneaaGreatDoorPi
import Derived.Test.YthfgjhnckegneaaGreatDoorRb
namespace Go.Proofs
open Go Go.Pi Go.RowKit

theorem reps_2 {S : Nat → Nat → Prop} {w : World} {d e : D} {vs : List Value} (h : Reps S w [d, e] vs) : ∃ x y, vs = [x, y] ∧ Rep S w d x ∧ Rep S w e y := by
  obtain ⟨x, vs', rfl, h1, h2⟩ := h.uncons
  obtain ⟨y, rfl, h3⟩ := reps_1 h2
  exact ⟨x, y, rfl, h1, h3⟩

theorem Tryz.c130 (l : List UInt8) (c : UInt8) : Con Tryz.prog Tryz.L 130 [.str l, .int .u8 c.toNat] (.int .i64 (Lib.indexByte l c)) := by
  refine con_val (by kernel_rfl) rfl fun S w vs hL hv => ?_
  obtain ⟨x, y, rfl, h1, h2⟩ := reps_2 hv
  cases h1; cases h2
  refine (Tryz.stringslite_IndexByte ⟨l.toArray⟩ c.toNat w).mono ?_
  rintro e w' ⟨rfl, rfl⟩
  exact ⟨_, rfl, Below.refl _ _, fun _ _ => by simpa using .int _ _⟩

theorem Tryz.c148 (l : List UInt8) (c : UInt8) : Con Tryz.prog Tryz.L 148 [.str l, .str [c]] (.int .i64 (Lib.indexByte l c)) := by
  refine con_val (by kernel_rfl) rfl fun S w vs hL hv => ?_
  obtain ⟨x, y, rfl, h1, h2⟩ := reps_2 hv
  cases h1; cases h2
  refine (Tryz.stringslite_Index_one ⟨l.toArray⟩ c w).mono ?_
  rintro e w' ⟨rfl, rfl⟩
  exact ⟨_, rfl, Below.refl _ _, fun _ _ => by simpa using .int _ _⟩

/-- a layer: its unit, its bounds -/
structure Lay where
  u : List UInt8
  a : List UInt8
  b : List UInt8
  deriving DecidableEq

def Lay.d (x : Lay) : List D := [.str x.u, .str x.a, .str x.b]
abbrev lays (l : List Lay) : List D := rows Lay.d l
theorem Lay.d_len (x : Lay) : x.d.length = 3 := rfl

/-- the line of a layer -/
def Lay.line (x : Lay) : List UInt8 := x.u ++ [32] ++ x.a ++ [32] ++ (if x.b = [] then [45] else x.b)
def Lay.small (x : Lay) : Prop := x.u.length ≤ 1000 ∧ x.a.length ≤ 1000 ∧ x.b.length ≤ 1000

theorem Tryz.c13 (l : List Lay) (hs : ∀ x ∈ l, x.small) (hl : l.length ≤ 1000) (hc : Con Tryz.prog Tryz.L 45 [.sl l.length (lays l)] (.int .i64 0)) :
    Con Tryz.prog Tryz.L 13 [.sl l.length (lays l)] (.tup [.sl l.length (strs (l.reverse.map Lay.line)), .int .i64 0]) := by
  refine rule13 Tryz.hL (fun q hq => by simp [PC.backs, pc13] at hq; subst hq; exact back53) rfl rfl rfl ?_
  simp only [pc13, rs13, initE, wC_seq, wC_reg, wC_cnd, wC_blk, wC_loop, wC_exit, wC_skip, wC_ret, wC_bad, GB_eq, zap_nil, zap_cons, lgF_g, lgF_b, sgOF_g, sgOF_b, sgPF_g, sgPF_b, Nat.reduceBNe, Nat.reduceLT, wC_rfn, wC_cus, asgK_nrm, bodK_nrm, wE_nil, wE_none, wE_st, wE_some, regK_eq, seqK_nrm, seqK_exit, seqK_ret, blkK_nrm, blkK_exit, blkK_ret, loopK_nrm, loopK_exit, loopK_ret,
    cndF_t, cndF_f, cndF_p, grdF_t, grdF_f, grdF_s, grdF_pt, grdF_pf, stepF, ev_v, ev_k, ev_o, oev_al, oev_int, oev_sl, oev_str, oev_agg, oev_pt, oev_bool, lk_cons, lk_nil, st1_cons, st1_nil, keepE_cons, keepE_nil, D.clean, reduceIte, Nat.reduceEqDiff,
    putF_int, putF_bool, putF_str, putF_sl, putF_agg, putF_tup, putF_pt, putF_clo, putF_err, mvF, moF, tkF, shF, ariF, ciF, catF, scF, ebF, eqF, eqOk, eqPr, enF, notF, ngF, cvF, csF, csbF, cbsF_s, cbsF_o, lenF, lenSF, ixF, iaF, PX.slot, iaAF, atV, atO, faF, ldF, ldC_ints, ldC_ints', ldC_aggc, ldC_cons, D.mem, stF, stG_ints, stG_box, bxF, mkSF, appF_oo, appF_os, ints_app, ints_snoc, ints_length, ints_nil, cut_ints, slcF_o, slcF_s, slc2_eq, slSF_eq, slS2_eq, boundF, Option.map_some, Option.map_none, mkfF_eq, capt_eq, captD_box, captD_pt, extF_eq, extO_eq, List.getElem?_cons_zero, List.getElem?_cons_succ, pickF_t, pickF_f, pickF_p, fldF, mmF2,
    lend_eq, List.map_cons, List.map_nil, D.plain, D.isPure, optAll, dulls_nil, dulls_v, dulls_k, dulls_o, D.dull, callVF, bldF_eq, bldSF_eq, fillD_nil, fillD_cons, splice, D.cells, D.one, List.length_cons, List.length_nil, List.all_cons, List.all_nil, Bool.and_self, Bool.and_true, Bool.true_and, List.take_succ_cons, List.take_zero, List.drop_succ_cons, List.drop_zero, List.nil_append, List.cons_append, List.append_nil, List.drop_nil, List.take_nil, List.replicate_succ, List.replicate_zero, List.flatten_cons, List.flatten_nil, Nat.reduceAdd, Nat.reduceMul, Nat.reduceSub, Nat.reduceLeDiff, Nat.zero_add, Nat.add_zero, Nat.mul_one, Nat.one_mul, Nat.zero_mul, Nat.zero_le, Int.toNat_natCast, Int.toNat_zero, Int.reduceToNat, Nat.sub_zero, Nat.le_refl,
    sets, List.cons.injEq, inR_i64, inR_u64, inR_u32, inR_i32, inR_u8, dB_True, dB_False, dB_neg, dB_beq_true, dB_beq_false, maxLen_eq, true_and, and_true, Bool.not_true, Bool.not_false, Bool.false_eq_true, Bool.not_eq_true, retQ_nrm, retQ_ret, resD_t, resT, Option.some.injEq, D.sl.injEq, D.int.injEq, D.bool.injEq, and_self, ne_eq, not_false_eq_true, not_true_eq_false, forall_const, D.flat, D.flat0, D.simple, Int.reduceLT, Int.reduceLE, Int.reduceEq, Int.reduceNeg, Int.reduceSub, Int.reduceAdd, Int.reduceMul, Int.ofNat_eq_natCast, imp_self, implies_true, false_implies]
  refine callF_of hc ?_
  simp only [initE, wC_seq, wC_reg, wC_cnd, wC_blk, wC_loop, wC_exit, wC_skip, wC_ret, wC_bad, GB_eq, zap_nil, zap_cons, lgF_g, lgF_b, sgOF_g, sgOF_b, sgPF_g, sgPF_b, Nat.reduceBNe, Nat.reduceLT, wC_rfn, wC_cus, asgK_nrm, bodK_nrm, wE_nil, wE_none, wE_st, wE_some, regK_eq, seqK_nrm, seqK_exit, seqK_ret, blkK_nrm, blkK_exit, blkK_ret, loopK_nrm, loopK_exit, loopK_ret,
    cndF_t, cndF_f, cndF_p, grdF_t, grdF_f, grdF_s, grdF_pt, grdF_pf, stepF, ev_v, ev_k, ev_o, oev_al, oev_int, oev_sl, oev_str, oev_agg, oev_pt, oev_bool, lk_cons, lk_nil, st1_cons, st1_nil, keepE_cons, keepE_nil, D.clean, reduceIte, Nat.reduceEqDiff,
    putF_int, putF_bool, putF_str, putF_sl, putF_agg, putF_tup, putF_pt, putF_clo, putF_err, mvF, moF, tkF, shF, ariF, ciF, catF, scF, ebF, eqF, eqOk, eqPr, enF, notF, ngF, cvF, csF, csbF, cbsF_s, cbsF_o, lenF, lenSF, ixF, iaF, PX.slot, iaAF, atV, atO, faF, ldF, ldC_ints, ldC_ints', ldC_aggc, ldC_cons, D.mem, stF, stG_ints, stG_box, bxF, mkSF, appF_oo, appF_os, ints_app, ints_snoc, ints_length, ints_nil, cut_ints, slcF_o, slcF_s, slc2_eq, slSF_eq, slS2_eq, boundF, Option.map_some, Option.map_none, mkfF_eq, capt_eq, captD_box, captD_pt, extF_eq, extO_eq, List.getElem?_cons_zero, List.getElem?_cons_succ, pickF_t, pickF_f, pickF_p, fldF, mmF2,
    lend_eq, List.map_cons, List.map_nil, D.plain, D.isPure, optAll, dulls_nil, dulls_v, dulls_k, dulls_o, D.dull, callVF, bldF_eq, bldSF_eq, fillD_nil, fillD_cons, splice, D.cells, D.one, List.length_cons, List.length_nil, List.all_cons, List.all_nil, Bool.and_self, Bool.and_true, Bool.true_and, List.take_succ_cons, List.take_zero, List.drop_succ_cons, List.drop_zero, List.nil_append, List.cons_append, List.append_nil, List.drop_nil, List.take_nil, List.replicate_succ, List.replicate_zero, List.flatten_cons, List.flatten_nil, Nat.reduceAdd, Nat.reduceMul, Nat.reduceSub, Nat.reduceLeDiff, Nat.zero_add, Nat.add_zero, Nat.mul_one, Nat.one_mul, Nat.zero_mul, Nat.zero_le, Int.toNat_natCast, Int.toNat_zero, Int.reduceToNat, Nat.sub_zero, Nat.le_refl,
    sets, List.cons.injEq, inR_i64, inR_u64, inR_u32, inR_i32, inR_u8, dB_True, dB_False, dB_neg, dB_beq_true, dB_beq_false, maxLen_eq, true_and, and_true, Bool.not_true, Bool.not_false, Bool.false_eq_true, Bool.not_eq_true, retQ_nrm, retQ_ret, resD_t, resT, Option.some.injEq, D.sl.injEq, D.int.injEq, D.bool.injEq, and_self, ne_eq, not_false_eq_true, not_true_eq_false, forall_const, D.flat, D.flat0, D.simple, Int.reduceLT, Int.reduceLE, Int.reduceEq, Int.reduceNeg, Int.reduceSub, Int.reduceAdd, Int.reduceMul, Int.ofNat_eq_natCast, imp_self, implies_true, false_implies]
  refine callF_of (Tryz.c14 _ _) ?_
  simp only [initE, wC_seq, wC_reg, wC_cnd, wC_blk, wC_loop, wC_exit, wC_skip, wC_ret, wC_bad, GB_eq, zap_nil, zap_cons, lgF_g, lgF_b, sgOF_g, sgOF_b, sgPF_g, sgPF_b, Nat.reduceBNe, Nat.reduceLT, wC_rfn, wC_cus, asgK_nrm, bodK_nrm, wE_nil, wE_none, wE_st, wE_some, regK_eq, seqK_nrm, seqK_exit, seqK_ret, blkK_nrm, blkK_exit, blkK_ret, loopK_nrm, loopK_exit, loopK_ret,
    cndF_t, cndF_f, cndF_p, grdF_t, grdF_f, grdF_s, grdF_pt, grdF_pf, stepF, ev_v, ev_k, ev_o, oev_al, oev_int, oev_sl, oev_str, oev_agg, oev_pt, oev_bool, lk_cons, lk_nil, st1_cons, st1_nil, keepE_cons, keepE_nil, D.clean, reduceIte, Nat.reduceEqDiff,
    putF_int, putF_bool, putF_str, putF_sl, putF_agg, putF_tup, putF_pt, putF_clo, putF_err, mvF, moF, tkF, shF, ariF, ciF, catF, scF, ebF, eqF, eqOk, eqPr, enF, notF, ngF, cvF, csF, csbF, cbsF_s, cbsF_o, lenF, lenSF, ixF, iaF, PX.slot, iaAF, atV, atO, faF, ldF, ldC_ints, ldC_ints', ldC_aggc, ldC_cons, D.mem, stF, stG_ints, stG_box, bxF, mkSF, appF_oo, appF_os, ints_app, ints_snoc, ints_length, ints_nil, cut_ints, slcF_o, slcF_s, slc2_eq, slSF_eq, slS2_eq, boundF, Option.map_some, Option.map_none, mkfF_eq, capt_eq, captD_box, captD_pt, extF_eq, extO_eq, List.getElem?_cons_zero, List.getElem?_cons_succ, pickF_t, pickF_f, pickF_p, fldF, mmF2,
    lend_eq, List.map_cons, List.map_nil, D.plain, D.isPure, optAll, dulls_nil, dulls_v, dulls_k, dulls_o, D.dull, callVF, bldF_eq, bldSF_eq, fillD_nil, fillD_cons, splice, D.cells, D.one, List.length_cons, List.length_nil, List.all_cons, List.all_nil, Bool.and_self, Bool.and_true, Bool.true_and, List.take_succ_cons, List.take_zero, List.drop_succ_cons, List.drop_zero, List.nil_append, List.cons_append, List.append_nil, List.drop_nil, List.take_nil, List.replicate_succ, List.replicate_zero, List.flatten_cons, List.flatten_nil, Nat.reduceAdd, Nat.reduceMul, Nat.reduceSub, Nat.reduceLeDiff, Nat.zero_add, Nat.add_zero, Nat.mul_one, Nat.one_mul, Nat.zero_mul, Nat.zero_le, Int.toNat_natCast, Int.toNat_zero, Int.reduceToNat, Nat.sub_zero, Nat.le_refl,
    sets, List.cons.injEq, inR_i64, inR_u64, inR_u32, inR_i32, inR_u8, dB_True, dB_False, dB_neg, dB_beq_true, dB_beq_false, maxLen_eq, true_and, and_true, Bool.not_true, Bool.not_false, Bool.false_eq_true, Bool.not_eq_true, retQ_nrm, retQ_ret, resD_t, resT, Option.some.injEq, D.sl.injEq, D.int.injEq, D.bool.injEq, and_self, ne_eq, not_false_eq_true, not_true_eq_false, forall_const, D.flat, D.flat0, D.simple, Int.reduceLT, Int.reduceLE, Int.reduceEq, Int.reduceNeg, Int.reduceSub, Int.reduceAdd, Int.reduceMul, Int.ofNat_eq_natCast, imp_self, implies_true, false_implies]
  refine rfnF_of (fun k E => ∃ hk : k ≤ l.length, E = [(5, .gbox 1000005), (15, .clo 53 [.pt [.sl l.length (lays l)]]), (1000005, .own true 9 k (strs ((l.reverse.map Lay.line).take k)))])
    (by rw [rows_length Lay.d_len]) ⟨Nat.zero_le _, rfl⟩ (fun k E1 hE => by obtain ⟨_, rfl⟩ := hE; rfl) ?_ ?_
  · rintro _ ⟨_, rfl⟩
    simp only [initE, wC_seq, wC_reg, wC_cnd, wC_blk, wC_loop, wC_exit, wC_skip, wC_ret, wC_bad, GB_eq, zap_nil, zap_cons, lgF_g, lgF_b, sgOF_g, sgOF_b, sgPF_g, sgPF_b, Nat.reduceBNe, Nat.reduceLT, wC_rfn, wC_cus, asgK_nrm, bodK_nrm, wE_nil, wE_none, wE_st, wE_some, regK_eq, seqK_nrm, seqK_exit, seqK_ret, blkK_nrm, blkK_exit, blkK_ret, loopK_nrm, loopK_exit, loopK_ret,
    cndF_t, cndF_f, cndF_p, grdF_t, grdF_f, grdF_s, grdF_pt, grdF_pf, stepF, ev_v, ev_k, ev_o, oev_al, oev_int, oev_sl, oev_str, oev_agg, oev_pt, oev_bool, lk_cons, lk_nil, st1_cons, st1_nil, keepE_cons, keepE_nil, D.clean, reduceIte, Nat.reduceEqDiff,
    putF_int, putF_bool, putF_str, putF_sl, putF_agg, putF_tup, putF_pt, putF_clo, putF_err, mvF, moF, tkF, shF, ariF, ciF, catF, scF, ebF, eqF, eqOk, eqPr, enF, notF, ngF, cvF, csF, csbF, cbsF_s, cbsF_o, lenF, lenSF, ixF, iaF, PX.slot, iaAF, atV, atO, faF, ldF, ldC_ints, ldC_ints', ldC_aggc, ldC_cons, D.mem, stF, stG_ints, stG_box, bxF, mkSF, appF_oo, appF_os, ints_app, ints_snoc, ints_length, ints_nil, cut_ints, slcF_o, slcF_s, slc2_eq, slSF_eq, slS2_eq, boundF, Option.map_some, Option.map_none, mkfF_eq, capt_eq, captD_box, captD_pt, extF_eq, extO_eq, List.getElem?_cons_zero, List.getElem?_cons_succ, pickF_t, pickF_f, pickF_p, fldF, mmF2,
    lend_eq, List.map_cons, List.map_nil, D.plain, D.isPure, optAll, dulls_nil, dulls_v, dulls_k, dulls_o, D.dull, callVF, bldF_eq, bldSF_eq, fillD_nil, fillD_cons, splice, D.cells, D.one, List.length_cons, List.length_nil, List.all_cons, List.all_nil, Bool.and_self, Bool.and_true, Bool.true_and, List.take_succ_cons, List.take_zero, List.drop_succ_cons, List.drop_zero, List.nil_append, List.cons_append, List.append_nil, List.drop_nil, List.take_nil, List.replicate_succ, List.replicate_zero, List.flatten_cons, List.flatten_nil, Nat.reduceAdd, Nat.reduceMul, Nat.reduceSub, Nat.reduceLeDiff, Nat.zero_add, Nat.add_zero, Nat.mul_one, Nat.one_mul, Nat.zero_mul, Nat.zero_le, Int.toNat_natCast, Int.toNat_zero, Int.reduceToNat, Nat.sub_zero, Nat.le_refl,
    sets, List.cons.injEq, inR_i64, inR_u64, inR_u32, inR_i32, inR_u8, dB_True, dB_False, dB_neg, dB_beq_true, dB_beq_false, maxLen_eq, true_and, and_true, Bool.not_true, Bool.not_false, Bool.false_eq_true, Bool.not_eq_true, retQ_nrm, retQ_ret, resD_t, resT, Option.some.injEq, D.sl.injEq, D.int.injEq, D.bool.injEq, and_self, ne_eq, not_false_eq_true, not_true_eq_false, forall_const, D.flat, D.flat0, D.simple, Int.reduceLT, Int.reduceLE, Int.reduceEq, Int.reduceNeg, Int.reduceSub, Int.reduceAdd, Int.reduceMul, Int.ofNat_eq_natCast, imp_self, implies_true, false_implies]
    rw [List.take_of_length_le (by simp)]
    simp [resD_two, rvD, lk, D.plain, D.isPure, optAll]
  · rintro k _ hkm ⟨hk, rfl⟩
    have hx : l[l.length - 1 - k]? = some (l[l.length - 1 - k]'(by omega)) := List.getElem?_eq_getElem (by omega)
    have hr : (l.reverse.map Lay.line).take (k + 1) = (l.reverse.map Lay.line).take k ++ [(l[l.length - 1 - k]'(by omega)).line] := by
      rw [List.take_succ_eq_append_getElem (by simpa using hkm)]
      simp [List.getElem_reverse]
    have hsm := hs _ (List.mem_of_getElem? hx)
    generalize l[l.length - 1 - k]'(by omega) = x at hx hr hsm
    refine ⟨_, ofCells_rows Lay.d_len hx, rfl, ?_⟩
    obtain ⟨h1, h2, h3⟩ := hsm
    simp only [Lay.d, initE, wC_seq, wC_reg, wC_cnd, wC_blk, wC_loop, wC_exit, wC_skip, wC_ret, wC_bad, GB_eq, zap_nil, zap_cons, lgF_g, lgF_b, sgOF_g, sgOF_b, sgPF_g, sgPF_b, Nat.reduceBNe, Nat.reduceLT, wC_rfn, wC_cus, asgK_nrm, bodK_nrm, wE_nil, wE_none, wE_st, wE_some, regK_eq, seqK_nrm, seqK_exit, seqK_ret, blkK_nrm, blkK_exit, blkK_ret, loopK_nrm, loopK_exit, loopK_ret,
    cndF_t, cndF_f, cndF_p, grdF_t, grdF_f, grdF_s, grdF_pt, grdF_pf, stepF, ev_v, ev_k, ev_o, oev_al, oev_int, oev_sl, oev_str, oev_agg, oev_pt, oev_bool, lk_cons, lk_nil, st1_cons, st1_nil, keepE_cons, keepE_nil, D.clean, reduceIte, Nat.reduceEqDiff,
    putF_int, putF_bool, putF_str, putF_sl, putF_agg, putF_tup, putF_pt, putF_clo, putF_err, mvF, moF, tkF, shF, ariF, ciF, catF, scF, ebF, eqF, eqOk, eqPr, enF, notF, ngF, cvF, csF, csbF, cbsF_s, cbsF_o, lenF, lenSF, ixF, iaF, PX.slot, iaAF, atV, atO, faF, ldF, ldC_ints, ldC_ints', ldC_aggc, ldC_cons, D.mem, stF, stG_ints, stG_box, bxF, mkSF, appF_oo, appF_os, ints_app, ints_snoc, ints_length, ints_nil, cut_ints, slcF_o, slcF_s, slc2_eq, slSF_eq, slS2_eq, boundF, Option.map_some, Option.map_none, mkfF_eq, capt_eq, captD_box, captD_pt, extF_eq, extO_eq, List.getElem?_cons_zero, List.getElem?_cons_succ, pickF_t, pickF_f, pickF_p, fldF, mmF2,
    lend_eq, List.map_cons, List.map_nil, D.plain, D.isPure, optAll, dulls_nil, dulls_v, dulls_k, dulls_o, D.dull, callVF, bldF_eq, bldSF_eq, fillD_nil, fillD_cons, splice, D.cells, D.one, List.length_cons, List.length_nil, List.all_cons, List.all_nil, Bool.and_self, Bool.and_true, Bool.true_and, List.take_succ_cons, List.take_zero, List.drop_succ_cons, List.drop_zero, List.nil_append, List.cons_append, List.append_nil, List.drop_nil, List.take_nil, List.replicate_succ, List.replicate_zero, List.flatten_cons, List.flatten_nil, Nat.reduceAdd, Nat.reduceMul, Nat.reduceSub, Nat.reduceLeDiff, Nat.zero_add, Nat.add_zero, Nat.mul_one, Nat.one_mul, Nat.zero_mul, Nat.zero_le, Int.toNat_natCast, Int.toNat_zero, Int.reduceToNat, Nat.sub_zero, Nat.le_refl,
    sets, List.cons.injEq, inR_i64, inR_u64, inR_u32, inR_i32, inR_u8, dB_True, dB_False, dB_neg, dB_beq_true, dB_beq_false, maxLen_eq, true_and, and_true, Bool.not_true, Bool.not_false, Bool.false_eq_true, Bool.not_eq_true, retQ_nrm, retQ_ret, resD_t, resT, Option.some.injEq, D.sl.injEq, D.int.injEq, D.bool.injEq, and_self, ne_eq, not_false_eq_true, not_true_eq_false, forall_const, D.flat, D.flat0, D.simple, Int.reduceLT, Int.reduceLE, Int.reduceEq, Int.reduceNeg, Int.reduceSub, Int.reduceAdd, Int.reduceMul, Int.ofNat_eq_natCast, imp_self, implies_true, false_implies]
    refine ⟨fun hb => ?_, fun hb => ?_⟩
    all_goals
      simp only [List.length_append, List.length_cons, List.length_nil]
      refine ⟨by omega, by omega, by omega, by omega, by omega, by omega, by omega, ?_⟩
      rw [hr, strs_snoc]
      simp [Lay.line, hb]
end Go.Proofs

/-
  SEAT 22: the table for closed runs; known(). Own work.
-/
namespace Go.Proofs
open Go Go.Pi Go.RowKit

def ext22 (f : Nat) (ds : List D) : Option D :=
  match f, ds with
  | 130, [.str l, .int .u8 n] => if 0 ≤ n ∧ n < 256 then some (.int .i64 (Lib.indexByte l n.toNat.toUInt8)) else none
  | 148, [.str l, .str [c]] => some (.int .i64 (Lib.indexByte l c))
  | 85, [.int .i64 n] => if -9223372036854775808 ≤ n ∧ n ≤ 9223372036854775807 then some (.str (Lib.itoa n)) else none
  | 109, [.str l] => if l.length ≤ 1000 then some (match Lib.atoiAll l with
    | .ok v => .tup [.int .i64 v, .err true]
    | .syntax => .tup [.int .i64 0, .err false]
    | .range => .tup [.int .i64 (Lib.atoiSat l), .err false]) else none
  | 128, [.str a, .str b] => some (.int .i64 (Lib.compareBytes a b))
  | _, _ => none

theorem ext22_ok (f : Nat) (ds : List D) (r : D) (h : ext22 f ds = some r) : Con Tryz.prog Tryz.L f ds r := by
  unfold ext22 at h
  split at h
  · rename_i l n
    split at h <;> cases h
    rename_i hn
    have := Tryz.c130 l n.toNat.toUInt8
    rwa [show ((n.toNat.toUInt8.toNat : Nat) : Int) = n by simp; omega] at this
  · cases h; exact Tryz.c148 _ _
  · split at h <;> cases h
    rename_i hn
    exact Tryz.c85 _ (inR_i64.2 hn)
  · split at h <;> cases h
    exact Tryz.c109 _ (by omega)
  · cases h; exact Tryz.c128 _ _
  · cases h

def tab22 : Tab := ⟨tabFn, ext22⟩
theorem tab22_ok : tab22.Ok Tryz.prog Tryz.L := ⟨tabFn_ok, ext22_ok⟩

def outB (o : Option Out) (b : Bool) : Bool := match o with | some (.val (.bool c)) => c == b | _ => false
def outI (o : Option Out) (n : Int) : Bool := match o with | some (.val (.int .i64 m)) => m == n | _ => false
def outS (o : Option Out) (s : List UInt8) : Bool := match o with | some (.val (.str t)) => t == s | _ => false
theorem outB_ok {o : Option Out} {b : Bool} (h : outB o b = true) : o = some (.val (.bool b)) := by
  unfold outB at h; split at h <;> simp_all
theorem outI_ok {o : Option Out} {b : Int} (h : outI o b = true) : o = some (.val (.int .i64 b)) := by
  unfold outI at h; split at h <;> simp_all
theorem outS_ok {o : Option Out} {b : List UInt8} (h : outS o b = true) : o = some (.val (.str b)) := by
  unfold outS at h; split at h <;> simp_all

/-- Of(1, 2) and so on: the numbers of plans -/
theorem t16 : outS (runJ tab22 1000 (.call 16 [.int .i64 1, .int .i64 2])) [49, 47, 50] = true := by kernel_rfl
theorem t62 : outI (runJ tab22 1000 (.call 62 [.str [49, 47, 50]])) 0 = true := by kernel_rfl
end Go.Proofs

/-
  SEAT 22: the place of a unit; which columns are right. Own work.
-/
namespace Go.Proofs
open Go Go.Pi Go.RowKit

theorem ldC_lays {l : List Lay} {k t : Nat} {N : EP} {E : Env} : ldC true 3 (List.take 3 (List.drop (k * 3) (lays l))) t N E = (∃ x, l[k]? = some x ∧ N (st1 E t (.agg x.d))) := by
  unfold ldC
  cases h : l[k]? with
  | none =>
    have hk : l.length ≤ k := by simpa using h
    have e : List.take 3 (List.drop (k * 3) (lays l)) = [] := by rw [List.drop_eq_nil_of_le (by rw [rows_length Lay.d_len]; omega)]; rfl
    rw [e]; simp [ofCells]
  | some x =>
    obtain ⟨r, e⟩ := rows_at Lay.d_len h
    have e2 : List.take 3 (List.drop (k * 3) (lays l)) = x.d := by rw [e]; rfl
    rw [e2]
    simp [ofCells, Lay.d]

/-- the place of the first element with a property, or -1 -/
def idxA {α : Type} (p : α → Bool) : List α → Nat → Int
  | [], _ => -1
  | x :: r, k => if p x then k else idxA p r (k + 1)
def idx {α : Type} (p : α → Bool) (l : List α) : Int := idxA p l 0

theorem drop_cons {α : Type} {l : List α} {k : Nat} {x : α} (h : l[k]? = some x) : l.drop k = x :: l.drop (k + 1) := by
  obtain ⟨hk, rfl⟩ := List.getElem?_eq_some_iff.1 h
  exact List.drop_eq_getElem_cons hk

theorem Tryz.c58 {f : Nat} {caps : List D} (p : Lay → Bool) (l : List Lay) (hl : l.length ≤ 1000) (h : ∀ x ∈ l, Con Tryz.prog Tryz.L f ([.agg x.d] ++ caps) (.bool (p x))) :
    Con Tryz.prog Tryz.L 58 [.sl l.length (lays l), .clo f caps] (.int .i64 (idx p l)) := by
  refine rule58 Tryz.hL rfl rfl rfl ?_
  simp only [pc58, rs58, initE, wC_seq, wC_reg, wC_cnd, wC_blk, wC_loop, wC_exit, wC_skip, wC_ret, wC_bad, GB_eq, zap_nil, zap_cons, lgF_g, lgF_b, sgOF_g, sgOF_b, sgPF_g, sgPF_b, Nat.reduceBNe, Nat.reduceLT, wC_rfn, wC_cus, asgK_nrm, bodK_nrm, wE_nil, wE_none, wE_st, wE_some, regK_eq, seqK_nrm, seqK_exit, seqK_ret, blkK_nrm, blkK_exit, blkK_ret, loopK_nrm, loopK_exit, loopK_ret,
    cndF_t, cndF_f, cndF_p, grdF_t, grdF_f, grdF_s, grdF_pt, grdF_pf, stepF, ev_v, ev_k, ev_o, oev_al, oev_int, oev_sl, oev_str, oev_agg, oev_pt, oev_bool, lk_cons, lk_nil, st1_cons, st1_nil, keepE_cons, keepE_nil, D.clean, reduceIte, Nat.reduceEqDiff,
    putF_int, putF_bool, putF_str, putF_sl, putF_agg, putF_tup, putF_pt, putF_clo, putF_err, mvF, moF, tkF, shF, ariF, ciF, catF, scF, ebF, eqF, eqOk, eqPr, enF, notF, ngF, cvF, csF, csbF, cbsF_s, cbsF_o, lenF, lenSF, ixF, iaF, PX.slot, iaAF, atV, atO, faF, ldF, ldC_ints, ldC_ints', ldC_aggc, ldC_cons, D.mem, stF, stG_ints, stG_box, bxF, mkSF, appF_oo, appF_os, ints_app, ints_snoc, ints_length, ints_nil, cut_ints, slcF_o, slcF_s, slc2_eq, slSF_eq, slS2_eq, boundF, Option.map_some, Option.map_none, mkfF_eq, capt_eq, captD_box, captD_pt, extF_eq, extO_eq, List.getElem?_cons_zero, List.getElem?_cons_succ, pickF_t, pickF_f, pickF_p, fldF, mmF2,
    lend_eq, List.map_cons, List.map_nil, D.plain, D.isPure, optAll, dulls_nil, dulls_v, dulls_k, dulls_o, D.dull, callVF, bldF_eq, bldSF_eq, fillD_nil, fillD_cons, splice, D.cells, D.one, List.length_cons, List.length_nil, List.all_cons, List.all_nil, Bool.and_self, Bool.and_true, Bool.true_and, List.take_succ_cons, List.take_zero, List.drop_succ_cons, List.drop_zero, List.nil_append, List.cons_append, List.append_nil, List.drop_nil, List.take_nil, List.replicate_succ, List.replicate_zero, List.flatten_cons, List.flatten_nil, Nat.reduceAdd, Nat.reduceMul, Nat.reduceSub, Nat.reduceLeDiff, Nat.zero_add, Nat.add_zero, Nat.mul_one, Nat.one_mul, Nat.zero_mul, Nat.zero_le, Int.toNat_natCast, Int.toNat_zero, Int.reduceToNat, Nat.sub_zero, Nat.le_refl,
    sets, List.cons.injEq, inR_i64, inR_u64, inR_u32, inR_i32, inR_u8, dB_True, dB_False, dB_neg, dB_beq_true, dB_beq_false, maxLen_eq, true_and, and_true, Bool.not_true, Bool.not_false, Bool.false_eq_true, Bool.not_eq_true, retQ_nrm, retQ_ret, resD_t, resT, Option.some.injEq, D.sl.injEq, D.int.injEq, D.bool.injEq, and_self, ne_eq, not_false_eq_true, not_true_eq_false, forall_const, D.flat, D.flat0, D.simple, Int.reduceLT, Int.reduceLE, Int.reduceEq, Int.reduceNeg, Int.reduceSub, Int.reduceAdd, Int.reduceMul, Int.ofNat_eq_natCast, imp_self, implies_true, false_implies]
  refine loopF_of (fun E => ∃ k : Nat, k ≤ l.length ∧ idx p l = idxA p (l.drop k) k ∧ E = [(0, .sl l.length (lays l)), (1, .clo f caps), (7, .int .i64 l.length), (8, .int .i64 k)])
    (fun E => match lk E 8 with | .int _ i => l.length - i.toNat | _ => 0) ⟨0, Nat.zero_le _, rfl, rfl⟩ ?_
  rintro _ ⟨k, hk, hi, rfl⟩
  simp only [initE, wC_seq, wC_reg, wC_cnd, wC_blk, wC_loop, wC_exit, wC_skip, wC_ret, wC_bad, GB_eq, zap_nil, zap_cons, lgF_g, lgF_b, sgOF_g, sgOF_b, sgPF_g, sgPF_b, Nat.reduceBNe, Nat.reduceLT, wC_rfn, wC_cus, asgK_nrm, bodK_nrm, wE_nil, wE_none, wE_st, wE_some, regK_eq, seqK_nrm, seqK_exit, seqK_ret, blkK_nrm, blkK_exit, blkK_ret, loopK_nrm, loopK_exit, loopK_ret,
    cndF_t, cndF_f, cndF_p, grdF_t, grdF_f, grdF_s, grdF_pt, grdF_pf, stepF, ev_v, ev_k, ev_o, oev_al, oev_int, oev_sl, oev_str, oev_agg, oev_pt, oev_bool, lk_cons, lk_nil, st1_cons, st1_nil, keepE_cons, keepE_nil, D.clean, reduceIte, Nat.reduceEqDiff,
    putF_int, putF_bool, putF_str, putF_sl, putF_agg, putF_tup, putF_pt, putF_clo, putF_err, mvF, moF, tkF, shF, ariF, ciF, catF, scF, ebF, eqF, eqOk, eqPr, enF, notF, ngF, cvF, csF, csbF, cbsF_s, cbsF_o, lenF, lenSF, ixF, iaF, PX.slot, iaAF, atV, atO, faF, ldF, ldC_ints, ldC_ints', ldC_aggc, ldC_cons, D.mem, stF, stG_ints, stG_box, bxF, mkSF, appF_oo, appF_os, ints_app, ints_snoc, ints_length, ints_nil, cut_ints, slcF_o, slcF_s, slc2_eq, slSF_eq, slS2_eq, boundF, Option.map_some, Option.map_none, mkfF_eq, capt_eq, captD_box, captD_pt, extF_eq, extO_eq, List.getElem?_cons_zero, List.getElem?_cons_succ, pickF_t, pickF_f, pickF_p, fldF, mmF2,
    lend_eq, List.map_cons, List.map_nil, D.plain, D.isPure, optAll, dulls_nil, dulls_v, dulls_k, dulls_o, D.dull, callVF, bldF_eq, bldSF_eq, fillD_nil, fillD_cons, splice, D.cells, D.one, List.length_cons, List.length_nil, List.all_cons, List.all_nil, Bool.and_self, Bool.and_true, Bool.true_and, List.take_succ_cons, List.take_zero, List.drop_succ_cons, List.drop_zero, List.nil_append, List.cons_append, List.append_nil, List.drop_nil, List.take_nil, List.replicate_succ, List.replicate_zero, List.flatten_cons, List.flatten_nil, Nat.reduceAdd, Nat.reduceMul, Nat.reduceSub, Nat.reduceLeDiff, Nat.zero_add, Nat.add_zero, Nat.mul_one, Nat.one_mul, Nat.zero_mul, Nat.zero_le, Int.toNat_natCast, Int.toNat_zero, Int.reduceToNat, Nat.sub_zero, Nat.le_refl,
    sets, List.cons.injEq, inR_i64, inR_u64, inR_u32, inR_i32, inR_u8, dB_True, dB_False, dB_neg, dB_beq_true, dB_beq_false, maxLen_eq, true_and, and_true, Bool.not_true, Bool.not_false, Bool.false_eq_true, Bool.not_eq_true, retQ_nrm, retQ_ret, resD_t, resT, Option.some.injEq, D.sl.injEq, D.int.injEq, D.bool.injEq, and_self, ne_eq, not_false_eq_true, not_true_eq_false, forall_const, D.flat, D.flat0, D.simple, Int.reduceLT, Int.reduceLE, Int.reduceEq, Int.reduceNeg, Int.reduceSub, Int.reduceAdd, Int.reduceMul, Int.ofNat_eq_natCast, imp_self, implies_true, false_implies, ldC_lays]
  refine ⟨fun h1 => ?_, fun h1 => ?_⟩
  · have hx : l[k]? = some (l[k]'(by omega)) := List.getElem?_eq_getElem (by omega)
    generalize l[k]'(by omega) = x at hx
    have hd := drop_cons hx
    refine ⟨⟨by omega, by rw [rows_length Lay.d_len]; omega⟩, x, hx, ?_⟩
    refine callF_of (h x (List.mem_of_getElem? hx)) ?_
    simp only [initE, wC_seq, wC_reg, wC_cnd, wC_blk, wC_loop, wC_exit, wC_skip, wC_ret, wC_bad, GB_eq, zap_nil, zap_cons, lgF_g, lgF_b, sgOF_g, sgOF_b, sgPF_g, sgPF_b, Nat.reduceBNe, Nat.reduceLT, wC_rfn, wC_cus, asgK_nrm, bodK_nrm, wE_nil, wE_none, wE_st, wE_some, regK_eq, seqK_nrm, seqK_exit, seqK_ret, blkK_nrm, blkK_exit, blkK_ret, loopK_nrm, loopK_exit, loopK_ret,
    cndF_t, cndF_f, cndF_p, grdF_t, grdF_f, grdF_s, grdF_pt, grdF_pf, stepF, ev_v, ev_k, ev_o, oev_al, oev_int, oev_sl, oev_str, oev_agg, oev_pt, oev_bool, lk_cons, lk_nil, st1_cons, st1_nil, keepE_cons, keepE_nil, D.clean, reduceIte, Nat.reduceEqDiff,
    putF_int, putF_bool, putF_str, putF_sl, putF_agg, putF_tup, putF_pt, putF_clo, putF_err, mvF, moF, tkF, shF, ariF, ciF, catF, scF, ebF, eqF, eqOk, eqPr, enF, notF, ngF, cvF, csF, csbF, cbsF_s, cbsF_o, lenF, lenSF, ixF, iaF, PX.slot, iaAF, atV, atO, faF, ldF, ldC_ints, ldC_ints', ldC_aggc, ldC_cons, D.mem, stF, stG_ints, stG_box, bxF, mkSF, appF_oo, appF_os, ints_app, ints_snoc, ints_length, ints_nil, cut_ints, slcF_o, slcF_s, slc2_eq, slSF_eq, slS2_eq, boundF, Option.map_some, Option.map_none, mkfF_eq, capt_eq, captD_box, captD_pt, extF_eq, extO_eq, List.getElem?_cons_zero, List.getElem?_cons_succ, pickF_t, pickF_f, pickF_p, fldF, mmF2,
    lend_eq, List.map_cons, List.map_nil, D.plain, D.isPure, optAll, dulls_nil, dulls_v, dulls_k, dulls_o, D.dull, callVF, bldF_eq, bldSF_eq, fillD_nil, fillD_cons, splice, D.cells, D.one, List.length_cons, List.length_nil, List.all_cons, List.all_nil, Bool.and_self, Bool.and_true, Bool.true_and, List.take_succ_cons, List.take_zero, List.drop_succ_cons, List.drop_zero, List.nil_append, List.cons_append, List.append_nil, List.drop_nil, List.take_nil, List.replicate_succ, List.replicate_zero, List.flatten_cons, List.flatten_nil, Nat.reduceAdd, Nat.reduceMul, Nat.reduceSub, Nat.reduceLeDiff, Nat.zero_add, Nat.add_zero, Nat.mul_one, Nat.one_mul, Nat.zero_mul, Nat.zero_le, Int.toNat_natCast, Int.toNat_zero, Int.reduceToNat, Nat.sub_zero, Nat.le_refl,
    sets, List.cons.injEq, inR_i64, inR_u64, inR_u32, inR_i32, inR_u8, dB_True, dB_False, dB_neg, dB_beq_true, dB_beq_false, maxLen_eq, true_and, and_true, Bool.not_true, Bool.not_false, Bool.false_eq_true, Bool.not_eq_true, retQ_nrm, retQ_ret, resD_t, resT, Option.some.injEq, D.sl.injEq, D.int.injEq, D.bool.injEq, and_self, ne_eq, not_false_eq_true, not_true_eq_false, forall_const, D.flat, D.flat0, D.simple, Int.reduceLT, Int.reduceLE, Int.reduceEq, Int.reduceNeg, Int.reduceSub, Int.reduceAdd, Int.reduceMul, Int.ofNat_eq_natCast, imp_self, implies_true, false_implies]
    rw [hd] at hi
    simp only [idxA] at hi
    cases hp : p x with
    | true =>
      simp only [initE, wC_seq, wC_reg, wC_cnd, wC_blk, wC_loop, wC_exit, wC_skip, wC_ret, wC_bad, GB_eq, zap_nil, zap_cons, lgF_g, lgF_b, sgOF_g, sgOF_b, sgPF_g, sgPF_b, Nat.reduceBNe, Nat.reduceLT, wC_rfn, wC_cus, asgK_nrm, bodK_nrm, wE_nil, wE_none, wE_st, wE_some, regK_eq, seqK_nrm, seqK_exit, seqK_ret, blkK_nrm, blkK_exit, blkK_ret, loopK_nrm, loopK_exit, loopK_ret,
    cndF_t, cndF_f, cndF_p, grdF_t, grdF_f, grdF_s, grdF_pt, grdF_pf, stepF, ev_v, ev_k, ev_o, oev_al, oev_int, oev_sl, oev_str, oev_agg, oev_pt, oev_bool, lk_cons, lk_nil, st1_cons, st1_nil, keepE_cons, keepE_nil, D.clean, reduceIte, Nat.reduceEqDiff,
    putF_int, putF_bool, putF_str, putF_sl, putF_agg, putF_tup, putF_pt, putF_clo, putF_err, mvF, moF, tkF, shF, ariF, ciF, catF, scF, ebF, eqF, eqOk, eqPr, enF, notF, ngF, cvF, csF, csbF, cbsF_s, cbsF_o, lenF, lenSF, ixF, iaF, PX.slot, iaAF, atV, atO, faF, ldF, ldC_ints, ldC_ints', ldC_aggc, ldC_cons, D.mem, stF, stG_ints, stG_box, bxF, mkSF, appF_oo, appF_os, ints_app, ints_snoc, ints_length, ints_nil, cut_ints, slcF_o, slcF_s, slc2_eq, slSF_eq, slS2_eq, boundF, Option.map_some, Option.map_none, mkfF_eq, capt_eq, captD_box, captD_pt, extF_eq, extO_eq, List.getElem?_cons_zero, List.getElem?_cons_succ, pickF_t, pickF_f, pickF_p, fldF, mmF2,
    lend_eq, List.map_cons, List.map_nil, D.plain, D.isPure, optAll, dulls_nil, dulls_v, dulls_k, dulls_o, D.dull, callVF, bldF_eq, bldSF_eq, fillD_nil, fillD_cons, splice, D.cells, D.one, List.length_cons, List.length_nil, List.all_cons, List.all_nil, Bool.and_self, Bool.and_true, Bool.true_and, List.take_succ_cons, List.take_zero, List.drop_succ_cons, List.drop_zero, List.nil_append, List.cons_append, List.append_nil, List.drop_nil, List.take_nil, List.replicate_succ, List.replicate_zero, List.flatten_cons, List.flatten_nil, Nat.reduceAdd, Nat.reduceMul, Nat.reduceSub, Nat.reduceLeDiff, Nat.zero_add, Nat.add_zero, Nat.mul_one, Nat.one_mul, Nat.zero_mul, Nat.zero_le, Int.toNat_natCast, Int.toNat_zero, Int.reduceToNat, Nat.sub_zero, Nat.le_refl,
    sets, List.cons.injEq, inR_i64, inR_u64, inR_u32, inR_i32, inR_u8, dB_True, dB_False, dB_neg, dB_beq_true, dB_beq_false, maxLen_eq, true_and, and_true, Bool.not_true, Bool.not_false, Bool.false_eq_true, Bool.not_eq_true, retQ_nrm, retQ_ret, resD_t, resT, Option.some.injEq, D.sl.injEq, D.int.injEq, D.bool.injEq, and_self, ne_eq, not_false_eq_true, not_true_eq_false, forall_const, D.flat, D.flat0, D.simple, Int.reduceLT, Int.reduceLE, Int.reduceEq, Int.reduceNeg, Int.reduceSub, Int.reduceAdd, Int.reduceMul, Int.ofNat_eq_natCast, imp_self, implies_true, false_implies]
      rw [hi, hp]; rfl
    | false =>
      simp only [initE, wC_seq, wC_reg, wC_cnd, wC_blk, wC_loop, wC_exit, wC_skip, wC_ret, wC_bad, GB_eq, zap_nil, zap_cons, lgF_g, lgF_b, sgOF_g, sgOF_b, sgPF_g, sgPF_b, Nat.reduceBNe, Nat.reduceLT, wC_rfn, wC_cus, asgK_nrm, bodK_nrm, wE_nil, wE_none, wE_st, wE_some, regK_eq, seqK_nrm, seqK_exit, seqK_ret, blkK_nrm, blkK_exit, blkK_ret, loopK_nrm, loopK_exit, loopK_ret,
    cndF_t, cndF_f, cndF_p, grdF_t, grdF_f, grdF_s, grdF_pt, grdF_pf, stepF, ev_v, ev_k, ev_o, oev_al, oev_int, oev_sl, oev_str, oev_agg, oev_pt, oev_bool, lk_cons, lk_nil, st1_cons, st1_nil, keepE_cons, keepE_nil, D.clean, reduceIte, Nat.reduceEqDiff,
    putF_int, putF_bool, putF_str, putF_sl, putF_agg, putF_tup, putF_pt, putF_clo, putF_err, mvF, moF, tkF, shF, ariF, ciF, catF, scF, ebF, eqF, eqOk, eqPr, enF, notF, ngF, cvF, csF, csbF, cbsF_s, cbsF_o, lenF, lenSF, ixF, iaF, PX.slot, iaAF, atV, atO, faF, ldF, ldC_ints, ldC_ints', ldC_aggc, ldC_cons, D.mem, stF, stG_ints, stG_box, bxF, mkSF, appF_oo, appF_os, ints_app, ints_snoc, ints_length, ints_nil, cut_ints, slcF_o, slcF_s, slc2_eq, slSF_eq, slS2_eq, boundF, Option.map_some, Option.map_none, mkfF_eq, capt_eq, captD_box, captD_pt, extF_eq, extO_eq, List.getElem?_cons_zero, List.getElem?_cons_succ, pickF_t, pickF_f, pickF_p, fldF, mmF2,
    lend_eq, List.map_cons, List.map_nil, D.plain, D.isPure, optAll, dulls_nil, dulls_v, dulls_k, dulls_o, D.dull, callVF, bldF_eq, bldSF_eq, fillD_nil, fillD_cons, splice, D.cells, D.one, List.length_cons, List.length_nil, List.all_cons, List.all_nil, Bool.and_self, Bool.and_true, Bool.true_and, List.take_succ_cons, List.take_zero, List.drop_succ_cons, List.drop_zero, List.nil_append, List.cons_append, List.append_nil, List.drop_nil, List.take_nil, List.replicate_succ, List.replicate_zero, List.flatten_cons, List.flatten_nil, Nat.reduceAdd, Nat.reduceMul, Nat.reduceSub, Nat.reduceLeDiff, Nat.zero_add, Nat.add_zero, Nat.mul_one, Nat.one_mul, Nat.zero_mul, Nat.zero_le, Int.toNat_natCast, Int.toNat_zero, Int.reduceToNat, Nat.sub_zero, Nat.le_refl,
    sets, List.cons.injEq, inR_i64, inR_u64, inR_u32, inR_i32, inR_u8, dB_True, dB_False, dB_neg, dB_beq_true, dB_beq_false, maxLen_eq, true_and, and_true, Bool.not_true, Bool.not_false, Bool.false_eq_true, Bool.not_eq_true, retQ_nrm, retQ_ret, resD_t, resT, Option.some.injEq, D.sl.injEq, D.int.injEq, D.bool.injEq, and_self, ne_eq, not_false_eq_true, not_true_eq_false, forall_const, D.flat, D.flat0, D.simple, Int.reduceLT, Int.reduceLE, Int.reduceEq, Int.reduceNeg, Int.reduceSub, Int.reduceAdd, Int.reduceMul, Int.ofNat_eq_natCast, imp_self, implies_true, false_implies]
      have hi2 : idx p l = idxA p (l.drop (k + 1)) (k + 1) := by rw [hi, hp]; rfl
      refine ⟨by omega, ⟨k + 1, by omega, hi2, rfl⟩, by omega⟩
  · have : k = l.length := by omega
    subst this
    rw [hi]; simp [idxA]

theorem Tryz.c86 (x : Lay) (u : List UInt8) : Con Tryz.prog Tryz.L 86 ([.agg x.d] ++ [.pt [.str u]]) (.bool (x.u == u)) := by
  refine rule86 Tryz.hL rfl rfl rfl ?_
  simp only [pc86, rs86, Lay.d, initE, wC_seq, wC_reg, wC_cnd, wC_blk, wC_loop, wC_exit, wC_skip, wC_ret, wC_bad, GB_eq, zap_nil, zap_cons, lgF_g, lgF_b, sgOF_g, sgOF_b, sgPF_g, sgPF_b, Nat.reduceBNe, Nat.reduceLT, wC_rfn, wC_cus, asgK_nrm, bodK_nrm, wE_nil, wE_none, wE_st, wE_some, regK_eq, seqK_nrm, seqK_exit, seqK_ret, blkK_nrm, blkK_exit, blkK_ret, loopK_nrm, loopK_exit, loopK_ret,
    cndF_t, cndF_f, cndF_p, grdF_t, grdF_f, grdF_s, grdF_pt, grdF_pf, stepF, ev_v, ev_k, ev_o, oev_al, oev_int, oev_sl, oev_str, oev_agg, oev_pt, oev_bool, lk_cons, lk_nil, st1_cons, st1_nil, keepE_cons, keepE_nil, D.clean, reduceIte, Nat.reduceEqDiff,
    putF_int, putF_bool, putF_str, putF_sl, putF_agg, putF_tup, putF_pt, putF_clo, putF_err, mvF, moF, tkF, shF, ariF, ciF, catF, scF, ebF, eqF, eqOk, eqPr, enF, notF, ngF, cvF, csF, csbF, cbsF_s, cbsF_o, lenF, lenSF, ixF, iaF, PX.slot, iaAF, atV, atO, faF, ldF, ldC_ints, ldC_ints', ldC_aggc, ldC_cons, D.mem, stF, stG_ints, stG_box, bxF, mkSF, appF_oo, appF_os, ints_app, ints_snoc, ints_length, ints_nil, cut_ints, slcF_o, slcF_s, slc2_eq, slSF_eq, slS2_eq, boundF, Option.map_some, Option.map_none, mkfF_eq, capt_eq, captD_box, captD_pt, extF_eq, extO_eq, List.getElem?_cons_zero, List.getElem?_cons_succ, pickF_t, pickF_f, pickF_p, fldF, mmF2,
    lend_eq, List.map_cons, List.map_nil, D.plain, D.isPure, optAll, dulls_nil, dulls_v, dulls_k, dulls_o, D.dull, callVF, bldF_eq, bldSF_eq, fillD_nil, fillD_cons, splice, D.cells, D.one, List.length_cons, List.length_nil, List.all_cons, List.all_nil, Bool.and_self, Bool.and_true, Bool.true_and, List.take_succ_cons, List.take_zero, List.drop_succ_cons, List.drop_zero, List.nil_append, List.cons_append, List.append_nil, List.drop_nil, List.take_nil, List.replicate_succ, List.replicate_zero, List.flatten_cons, List.flatten_nil, Nat.reduceAdd, Nat.reduceMul, Nat.reduceSub, Nat.reduceLeDiff, Nat.zero_add, Nat.add_zero, Nat.mul_one, Nat.one_mul, Nat.zero_mul, Nat.zero_le, Int.toNat_natCast, Int.toNat_zero, Int.reduceToNat, Nat.sub_zero, Nat.le_refl,
    sets, List.cons.injEq, inR_i64, inR_u64, inR_u32, inR_i32, inR_u8, dB_True, dB_False, dB_neg, dB_beq_true, dB_beq_false, maxLen_eq, true_and, and_true, Bool.not_true, Bool.not_false, Bool.false_eq_true, Bool.not_eq_true, retQ_nrm, retQ_ret, resD_t, resT, Option.some.injEq, D.sl.injEq, D.int.injEq, D.bool.injEq, and_self, ne_eq, not_false_eq_true, not_true_eq_false, forall_const, D.flat, D.flat0, D.simple, Int.reduceLT, Int.reduceLE, Int.reduceEq, Int.reduceNeg, Int.reduceSub, Int.reduceAdd, Int.reduceMul, Int.ofNat_eq_natCast, imp_self, implies_true, false_implies]
  rw [Bool.eq_iff_iff, dB_iff]; simp

theorem Tryz.c56 (l : List Lay) (u : List UInt8) (hl : l.length ≤ 1000) : Con Tryz.prog Tryz.L 56 [.sl l.length (lays l), .str u] (.int .i64 (idx (fun x => x.u == u) l)) := by
  refine rule56 Tryz.hL rfl rfl rfl ?_
  simp only [pc56, rs56, initE, wC_seq, wC_reg, wC_cnd, wC_blk, wC_loop, wC_exit, wC_skip, wC_ret, wC_bad, GB_eq, zap_nil, zap_cons, lgF_g, lgF_b, sgOF_g, sgOF_b, sgPF_g, sgPF_b, Nat.reduceBNe, Nat.reduceLT, wC_rfn, wC_cus, asgK_nrm, bodK_nrm, wE_nil, wE_none, wE_st, wE_some, regK_eq, seqK_nrm, seqK_exit, seqK_ret, blkK_nrm, blkK_exit, blkK_ret, loopK_nrm, loopK_exit, loopK_ret,
    cndF_t, cndF_f, cndF_p, grdF_t, grdF_f, grdF_s, grdF_pt, grdF_pf, stepF, ev_v, ev_k, ev_o, oev_al, oev_int, oev_sl, oev_str, oev_agg, oev_pt, oev_bool, lk_cons, lk_nil, st1_cons, st1_nil, keepE_cons, keepE_nil, D.clean, reduceIte, Nat.reduceEqDiff,
    putF_int, putF_bool, putF_str, putF_sl, putF_agg, putF_tup, putF_pt, putF_clo, putF_err, mvF, moF, tkF, shF, ariF, ciF, catF, scF, ebF, eqF, eqOk, eqPr, enF, notF, ngF, cvF, csF, csbF, cbsF_s, cbsF_o, lenF, lenSF, ixF, iaF, PX.slot, iaAF, atV, atO, faF, ldF, ldC_ints, ldC_ints', ldC_aggc, ldC_cons, D.mem, stF, stG_ints, stG_box, bxF, mkSF, appF_oo, appF_os, ints_app, ints_snoc, ints_length, ints_nil, cut_ints, slcF_o, slcF_s, slc2_eq, slSF_eq, slS2_eq, boundF, Option.map_some, Option.map_none, mkfF_eq, capt_eq, captD_box, captD_pt, extF_eq, extO_eq, List.getElem?_cons_zero, List.getElem?_cons_succ, pickF_t, pickF_f, pickF_p, fldF, mmF2,
    lend_eq, List.map_cons, List.map_nil, D.plain, D.isPure, optAll, dulls_nil, dulls_v, dulls_k, dulls_o, D.dull, callVF, bldF_eq, bldSF_eq, fillD_nil, fillD_cons, splice, D.cells, D.one, List.length_cons, List.length_nil, List.all_cons, List.all_nil, Bool.and_self, Bool.and_true, Bool.true_and, List.take_succ_cons, List.take_zero, List.drop_succ_cons, List.drop_zero, List.nil_append, List.cons_append, List.append_nil, List.drop_nil, List.take_nil, List.replicate_succ, List.replicate_zero, List.flatten_cons, List.flatten_nil, Nat.reduceAdd, Nat.reduceMul, Nat.reduceSub, Nat.reduceLeDiff, Nat.zero_add, Nat.add_zero, Nat.mul_one, Nat.one_mul, Nat.zero_mul, Nat.zero_le, Int.toNat_natCast, Int.toNat_zero, Int.reduceToNat, Nat.sub_zero, Nat.le_refl,
    sets, List.cons.injEq, inR_i64, inR_u64, inR_u32, inR_i32, inR_u8, dB_True, dB_False, dB_neg, dB_beq_true, dB_beq_false, maxLen_eq, true_and, and_true, Bool.not_true, Bool.not_false, Bool.false_eq_true, Bool.not_eq_true, retQ_nrm, retQ_ret, resD_t, resT, Option.some.injEq, D.sl.injEq, D.int.injEq, D.bool.injEq, and_self, ne_eq, not_false_eq_true, not_true_eq_false, forall_const, D.flat, D.flat0, D.simple, Int.reduceLT, Int.reduceLE, Int.reduceEq, Int.reduceNeg, Int.reduceSub, Int.reduceAdd, Int.reduceMul, Int.ofNat_eq_natCast, imp_self, implies_true, false_implies]
  refine callF_of (Tryz.c58 _ l hl fun x _ => Tryz.c86 x u) ?_
  simp only [initE, wC_seq, wC_reg, wC_cnd, wC_blk, wC_loop, wC_exit, wC_skip, wC_ret, wC_bad, GB_eq, zap_nil, zap_cons, lgF_g, lgF_b, sgOF_g, sgOF_b, sgPF_g, sgPF_b, Nat.reduceBNe, Nat.reduceLT, wC_rfn, wC_cus, asgK_nrm, bodK_nrm, wE_nil, wE_none, wE_st, wE_some, regK_eq, seqK_nrm, seqK_exit, seqK_ret, blkK_nrm, blkK_exit, blkK_ret, loopK_nrm, loopK_exit, loopK_ret,
    cndF_t, cndF_f, cndF_p, grdF_t, grdF_f, grdF_s, grdF_pt, grdF_pf, stepF, ev_v, ev_k, ev_o, oev_al, oev_int, oev_sl, oev_str, oev_agg, oev_pt, oev_bool, lk_cons, lk_nil, st1_cons, st1_nil, keepE_cons, keepE_nil, D.clean, reduceIte, Nat.reduceEqDiff,
    putF_int, putF_bool, putF_str, putF_sl, putF_agg, putF_tup, putF_pt, putF_clo, putF_err, mvF, moF, tkF, shF, ariF, ciF, catF, scF, ebF, eqF, eqOk, eqPr, enF, notF, ngF, cvF, csF, csbF, cbsF_s, cbsF_o, lenF, lenSF, ixF, iaF, PX.slot, iaAF, atV, atO, faF, ldF, ldC_ints, ldC_ints', ldC_aggc, ldC_cons, D.mem, stF, stG_ints, stG_box, bxF, mkSF, appF_oo, appF_os, ints_app, ints_snoc, ints_length, ints_nil, cut_ints, slcF_o, slcF_s, slc2_eq, slSF_eq, slS2_eq, boundF, Option.map_some, Option.map_none, mkfF_eq, capt_eq, captD_box, captD_pt, extF_eq, extO_eq, List.getElem?_cons_zero, List.getElem?_cons_succ, pickF_t, pickF_f, pickF_p, fldF, mmF2,
    lend_eq, List.map_cons, List.map_nil, D.plain, D.isPure, optAll, dulls_nil, dulls_v, dulls_k, dulls_o, D.dull, callVF, bldF_eq, bldSF_eq, fillD_nil, fillD_cons, splice, D.cells, D.one, List.length_cons, List.length_nil, List.all_cons, List.all_nil, Bool.and_self, Bool.and_true, Bool.true_and, List.take_succ_cons, List.take_zero, List.drop_succ_cons, List.drop_zero, List.nil_append, List.cons_append, List.append_nil, List.drop_nil, List.take_nil, List.replicate_succ, List.replicate_zero, List.flatten_cons, List.flatten_nil, Nat.reduceAdd, Nat.reduceMul, Nat.reduceSub, Nat.reduceLeDiff, Nat.zero_add, Nat.add_zero, Nat.mul_one, Nat.one_mul, Nat.zero_mul, Nat.zero_le, Int.toNat_natCast, Int.toNat_zero, Int.reduceToNat, Nat.sub_zero, Nat.le_refl,
    sets, List.cons.injEq, inR_i64, inR_u64, inR_u32, inR_i32, inR_u8, dB_True, dB_False, dB_neg, dB_beq_true, dB_beq_false, maxLen_eq, true_and, and_true, Bool.not_true, Bool.not_false, Bool.false_eq_true, Bool.not_eq_true, retQ_nrm, retQ_ret, resD_t, resT, Option.some.injEq, D.sl.injEq, D.int.injEq, D.bool.injEq, and_self, ne_eq, not_false_eq_true, not_true_eq_false, forall_const, D.flat, D.flat0, D.simple, Int.reduceLT, Int.reduceLE, Int.reduceEq, Int.reduceNeg, Int.reduceSub, Int.reduceAdd, Int.reduceMul, Int.ofNat_eq_natCast, imp_self, implies_true, false_implies]

/-- the error of a layer, but for its unit: none -/
theorem Tryz.c77 (x : Lay) (h1 : Con Tryz.prog Tryz.L 62 [.str x.a] (.int .i64 0)) (h2 : x.b ≠ [] → Con Tryz.prog Tryz.L 62 [.str x.b] (.int .i64 0)) :
    Con Tryz.prog Tryz.L 77 [.agg x.d] (.int .i64 0) := by
  refine rule77 Tryz.hL rfl rfl rfl ?_
  simp only [pc77, rs77, Lay.d, initE, wC_seq, wC_reg, wC_cnd, wC_blk, wC_loop, wC_exit, wC_skip, wC_ret, wC_bad, GB_eq, zap_nil, zap_cons, lgF_g, lgF_b, sgOF_g, sgOF_b, sgPF_g, sgPF_b, Nat.reduceBNe, Nat.reduceLT, wC_rfn, wC_cus, asgK_nrm, bodK_nrm, wE_nil, wE_none, wE_st, wE_some, regK_eq, seqK_nrm, seqK_exit, seqK_ret, blkK_nrm, blkK_exit, blkK_ret, loopK_nrm, loopK_exit, loopK_ret,
    cndF_t, cndF_f, cndF_p, grdF_t, grdF_f, grdF_s, grdF_pt, grdF_pf, stepF, ev_v, ev_k, ev_o, oev_al, oev_int, oev_sl, oev_str, oev_agg, oev_pt, oev_bool, lk_cons, lk_nil, st1_cons, st1_nil, keepE_cons, keepE_nil, D.clean, reduceIte, Nat.reduceEqDiff,
    putF_int, putF_bool, putF_str, putF_sl, putF_agg, putF_tup, putF_pt, putF_clo, putF_err, mvF, moF, tkF, shF, ariF, ciF, catF, scF, ebF, eqF, eqOk, eqPr, enF, notF, ngF, cvF, csF, csbF, cbsF_s, cbsF_o, lenF, lenSF, ixF, iaF, PX.slot, iaAF, atV, atO, faF, ldF, ldC_ints, ldC_ints', ldC_aggc, ldC_cons, D.mem, stF, stG_ints, stG_box, bxF, mkSF, appF_oo, appF_os, ints_app, ints_snoc, ints_length, ints_nil, cut_ints, slcF_o, slcF_s, slc2_eq, slSF_eq, slS2_eq, boundF, Option.map_some, Option.map_none, mkfF_eq, capt_eq, captD_box, captD_pt, extF_eq, extO_eq, List.getElem?_cons_zero, List.getElem?_cons_succ, pickF_t, pickF_f, pickF_p, fldF, mmF2,
    lend_eq, List.map_cons, List.map_nil, D.plain, D.isPure, optAll, dulls_nil, dulls_v, dulls_k, dulls_o, D.dull, callVF, bldF_eq, bldSF_eq, fillD_nil, fillD_cons, splice, D.cells, D.one, List.length_cons, List.length_nil, List.all_cons, List.all_nil, Bool.and_self, Bool.and_true, Bool.true_and, List.take_succ_cons, List.take_zero, List.drop_succ_cons, List.drop_zero, List.nil_append, List.cons_append, List.append_nil, List.drop_nil, List.take_nil, List.replicate_succ, List.replicate_zero, List.flatten_cons, List.flatten_nil, Nat.reduceAdd, Nat.reduceMul, Nat.reduceSub, Nat.reduceLeDiff, Nat.zero_add, Nat.add_zero, Nat.mul_one, Nat.one_mul, Nat.zero_mul, Nat.zero_le, Int.toNat_natCast, Int.toNat_zero, Int.reduceToNat, Nat.sub_zero, Nat.le_refl,
    sets, List.cons.injEq, inR_i64, inR_u64, inR_u32, inR_i32, inR_u8, dB_True, dB_False, dB_neg, dB_beq_true, dB_beq_false, maxLen_eq, true_and, and_true, Bool.not_true, Bool.not_false, Bool.false_eq_true, Bool.not_eq_true, retQ_nrm, retQ_ret, resD_t, resT, Option.some.injEq, D.sl.injEq, D.int.injEq, D.bool.injEq, and_self, ne_eq, not_false_eq_true, not_true_eq_false, forall_const, D.flat, D.flat0, D.simple, Int.reduceLT, Int.reduceLE, Int.reduceEq, Int.reduceNeg, Int.reduceSub, Int.reduceAdd, Int.reduceMul, Int.ofNat_eq_natCast, imp_self, implies_true, false_implies]
  refine callF_of h1 ?_
  simp only [initE, wC_seq, wC_reg, wC_cnd, wC_blk, wC_loop, wC_exit, wC_skip, wC_ret, wC_bad, GB_eq, zap_nil, zap_cons, lgF_g, lgF_b, sgOF_g, sgOF_b, sgPF_g, sgPF_b, Nat.reduceBNe, Nat.reduceLT, wC_rfn, wC_cus, asgK_nrm, bodK_nrm, wE_nil, wE_none, wE_st, wE_some, regK_eq, seqK_nrm, seqK_exit, seqK_ret, blkK_nrm, blkK_exit, blkK_ret, loopK_nrm, loopK_exit, loopK_ret,
    cndF_t, cndF_f, cndF_p, grdF_t, grdF_f, grdF_s, grdF_pt, grdF_pf, stepF, ev_v, ev_k, ev_o, oev_al, oev_int, oev_sl, oev_str, oev_agg, oev_pt, oev_bool, lk_cons, lk_nil, st1_cons, st1_nil, keepE_cons, keepE_nil, D.clean, reduceIte, Nat.reduceEqDiff,
    putF_int, putF_bool, putF_str, putF_sl, putF_agg, putF_tup, putF_pt, putF_clo, putF_err, mvF, moF, tkF, shF, ariF, ciF, catF, scF, ebF, eqF, eqOk, eqPr, enF, notF, ngF, cvF, csF, csbF, cbsF_s, cbsF_o, lenF, lenSF, ixF, iaF, PX.slot, iaAF, atV, atO, faF, ldF, ldC_ints, ldC_ints', ldC_aggc, ldC_cons, D.mem, stF, stG_ints, stG_box, bxF, mkSF, appF_oo, appF_os, ints_app, ints_snoc, ints_length, ints_nil, cut_ints, slcF_o, slcF_s, slc2_eq, slSF_eq, slS2_eq, boundF, Option.map_some, Option.map_none, mkfF_eq, capt_eq, captD_box, captD_pt, extF_eq, extO_eq, List.getElem?_cons_zero, List.getElem?_cons_succ, pickF_t, pickF_f, pickF_p, fldF, mmF2,
    lend_eq, List.map_cons, List.map_nil, D.plain, D.isPure, optAll, dulls_nil, dulls_v, dulls_k, dulls_o, D.dull, callVF, bldF_eq, bldSF_eq, fillD_nil, fillD_cons, splice, D.cells, D.one, List.length_cons, List.length_nil, List.all_cons, List.all_nil, Bool.and_self, Bool.and_true, Bool.true_and, List.take_succ_cons, List.take_zero, List.drop_succ_cons, List.drop_zero, List.nil_append, List.cons_append, List.append_nil, List.drop_nil, List.take_nil, List.replicate_succ, List.replicate_zero, List.flatten_cons, List.flatten_nil, Nat.reduceAdd, Nat.reduceMul, Nat.reduceSub, Nat.reduceLeDiff, Nat.zero_add, Nat.add_zero, Nat.mul_one, Nat.one_mul, Nat.zero_mul, Nat.zero_le, Int.toNat_natCast, Int.toNat_zero, Int.reduceToNat, Nat.sub_zero, Nat.le_refl,
    sets, List.cons.injEq, inR_i64, inR_u64, inR_u32, inR_i32, inR_u8, dB_True, dB_False, dB_neg, dB_beq_true, dB_beq_false, maxLen_eq, true_and, and_true, Bool.not_true, Bool.not_false, Bool.false_eq_true, Bool.not_eq_true, retQ_nrm, retQ_ret, resD_t, resT, Option.some.injEq, D.sl.injEq, D.int.injEq, D.bool.injEq, and_self, ne_eq, not_false_eq_true, not_true_eq_false, forall_const, D.flat, D.flat0, D.simple, Int.reduceLT, Int.reduceLE, Int.reduceEq, Int.reduceNeg, Int.reduceSub, Int.reduceAdd, Int.reduceMul, Int.ofNat_eq_natCast, imp_self, implies_true, false_implies]
  intro hb
  refine callF_of (h2 hb) ?_
  simp only [initE, wC_seq, wC_reg, wC_cnd, wC_blk, wC_loop, wC_exit, wC_skip, wC_ret, wC_bad, GB_eq, zap_nil, zap_cons, lgF_g, lgF_b, sgOF_g, sgOF_b, sgPF_g, sgPF_b, Nat.reduceBNe, Nat.reduceLT, wC_rfn, wC_cus, asgK_nrm, bodK_nrm, wE_nil, wE_none, wE_st, wE_some, regK_eq, seqK_nrm, seqK_exit, seqK_ret, blkK_nrm, blkK_exit, blkK_ret, loopK_nrm, loopK_exit, loopK_ret,
    cndF_t, cndF_f, cndF_p, grdF_t, grdF_f, grdF_s, grdF_pt, grdF_pf, stepF, ev_v, ev_k, ev_o, oev_al, oev_int, oev_sl, oev_str, oev_agg, oev_pt, oev_bool, lk_cons, lk_nil, st1_cons, st1_nil, keepE_cons, keepE_nil, D.clean, reduceIte, Nat.reduceEqDiff,
    putF_int, putF_bool, putF_str, putF_sl, putF_agg, putF_tup, putF_pt, putF_clo, putF_err, mvF, moF, tkF, shF, ariF, ciF, catF, scF, ebF, eqF, eqOk, eqPr, enF, notF, ngF, cvF, csF, csbF, cbsF_s, cbsF_o, lenF, lenSF, ixF, iaF, PX.slot, iaAF, atV, atO, faF, ldF, ldC_ints, ldC_ints', ldC_aggc, ldC_cons, D.mem, stF, stG_ints, stG_box, bxF, mkSF, appF_oo, appF_os, ints_app, ints_snoc, ints_length, ints_nil, cut_ints, slcF_o, slcF_s, slc2_eq, slSF_eq, slS2_eq, boundF, Option.map_some, Option.map_none, mkfF_eq, capt_eq, captD_box, captD_pt, extF_eq, extO_eq, List.getElem?_cons_zero, List.getElem?_cons_succ, pickF_t, pickF_f, pickF_p, fldF, mmF2,
    lend_eq, List.map_cons, List.map_nil, D.plain, D.isPure, optAll, dulls_nil, dulls_v, dulls_k, dulls_o, D.dull, callVF, bldF_eq, bldSF_eq, fillD_nil, fillD_cons, splice, D.cells, D.one, List.length_cons, List.length_nil, List.all_cons, List.all_nil, Bool.and_self, Bool.and_true, Bool.true_and, List.take_succ_cons, List.take_zero, List.drop_succ_cons, List.drop_zero, List.nil_append, List.cons_append, List.append_nil, List.drop_nil, List.take_nil, List.replicate_succ, List.replicate_zero, List.flatten_cons, List.flatten_nil, Nat.reduceAdd, Nat.reduceMul, Nat.reduceSub, Nat.reduceLeDiff, Nat.zero_add, Nat.add_zero, Nat.mul_one, Nat.one_mul, Nat.zero_mul, Nat.zero_le, Int.toNat_natCast, Int.toNat_zero, Int.reduceToNat, Nat.sub_zero, Nat.le_refl,
    sets, List.cons.injEq, inR_i64, inR_u64, inR_u32, inR_i32, inR_u8, dB_True, dB_False, dB_neg, dB_beq_true, dB_beq_false, maxLen_eq, true_and, and_true, Bool.not_true, Bool.not_false, Bool.false_eq_true, Bool.not_eq_true, retQ_nrm, retQ_ret, resD_t, resT, Option.some.injEq, D.sl.injEq, D.int.injEq, D.bool.injEq, and_self, ne_eq, not_false_eq_true, not_true_eq_false, forall_const, D.flat, D.flat0, D.simple, Int.reduceLT, Int.reduceLE, Int.reduceEq, Int.reduceNeg, Int.reduceSub, Int.reduceAdd, Int.reduceMul, Int.ofNat_eq_natCast, imp_self, implies_true, false_implies]

/-- what makes a layer right, as contracts -/
structure LayOk (x : Lay) : Prop where
  n1 : Con Tryz.prog Tryz.L 62 [.str x.a] (.int .i64 0)
  n2 : x.b ≠ [] → Con Tryz.prog Tryz.L 62 [.str x.b] (.int .i64 0)
  nm : Con Tryz.prog Tryz.L 68 [.str x.u] (.bool true)
  sg : ∃ c, 0 ≤ c ∧ Con Tryz.prog Tryz.L 78 [.str x.a] (.int .i64 c)
  cm : x.b ≠ [] → ∃ c, 0 ≤ c ∧ Con Tryz.prog Tryz.L 79 [.str x.b, .str x.a] (.int .i64 c)

theorem idxA_none {α : Type} {p : α → Bool} : ∀ {l : List α} {k : Nat}, (∀ x ∈ l, p x = false) → idxA p l k = -1
  | [], _, _ => rfl
  | x :: l, k, h => by
    simp only [idxA, h x (List.mem_cons_self ..), Bool.false_eq_true, if_false]
    exact idxA_none fun y hy => h y (List.mem_cons_of_mem _ hy)

theorem Tryz.c45 (l : List Lay) (h0 : 0 < l.length) (hl : l.length ≤ 60) (hd : (l.map Lay.u).Nodup) (h : ∀ x ∈ l, LayOk x) : Con Tryz.prog Tryz.L 45 [.sl l.length (lays l)] (.int .i64 0) := by
  refine rule45 Tryz.hL rfl rfl rfl ?_
  simp only [pc45, rs45, initE, wC_seq, wC_reg, wC_cnd, wC_blk, wC_loop, wC_exit, wC_skip, wC_ret, wC_bad, GB_eq, zap_nil, zap_cons, lgF_g, lgF_b, sgOF_g, sgOF_b, sgPF_g, sgPF_b, Nat.reduceBNe, Nat.reduceLT, wC_rfn, wC_cus, asgK_nrm, bodK_nrm, wE_nil, wE_none, wE_st, wE_some, regK_eq, seqK_nrm, seqK_exit, seqK_ret, blkK_nrm, blkK_exit, blkK_ret, loopK_nrm, loopK_exit, loopK_ret,
    cndF_t, cndF_f, cndF_p, grdF_t, grdF_f, grdF_s, grdF_pt, grdF_pf, stepF, ev_v, ev_k, ev_o, oev_al, oev_int, oev_sl, oev_str, oev_agg, oev_pt, oev_bool, lk_cons, lk_nil, st1_cons, st1_nil, keepE_cons, keepE_nil, D.clean, reduceIte, Nat.reduceEqDiff,
    putF_int, putF_bool, putF_str, putF_sl, putF_agg, putF_tup, putF_pt, putF_clo, putF_err, mvF, moF, tkF, shF, ariF, ciF, catF, scF, ebF, eqF, eqOk, eqPr, enF, notF, ngF, cvF, csF, csbF, cbsF_s, cbsF_o, lenF, lenSF, ixF, iaF, PX.slot, iaAF, atV, atO, faF, ldF, ldC_ints, ldC_ints', ldC_aggc, ldC_cons, D.mem, stF, stG_ints, stG_box, bxF, mkSF, appF_oo, appF_os, ints_app, ints_snoc, ints_length, ints_nil, cut_ints, slcF_o, slcF_s, slc2_eq, slSF_eq, slS2_eq, boundF, Option.map_some, Option.map_none, mkfF_eq, capt_eq, captD_box, captD_pt, extF_eq, extO_eq, List.getElem?_cons_zero, List.getElem?_cons_succ, pickF_t, pickF_f, pickF_p, fldF, mmF2,
    lend_eq, List.map_cons, List.map_nil, D.plain, D.isPure, optAll, dulls_nil, dulls_v, dulls_k, dulls_o, D.dull, callVF, bldF_eq, bldSF_eq, fillD_nil, fillD_cons, splice, D.cells, D.one, List.length_cons, List.length_nil, List.all_cons, List.all_nil, Bool.and_self, Bool.and_true, Bool.true_and, List.take_succ_cons, List.take_zero, List.drop_succ_cons, List.drop_zero, List.nil_append, List.cons_append, List.append_nil, List.drop_nil, List.take_nil, List.replicate_succ, List.replicate_zero, List.flatten_cons, List.flatten_nil, Nat.reduceAdd, Nat.reduceMul, Nat.reduceSub, Nat.reduceLeDiff, Nat.zero_add, Nat.add_zero, Nat.mul_one, Nat.one_mul, Nat.zero_mul, Nat.zero_le, Int.toNat_natCast, Int.toNat_zero, Int.reduceToNat, Nat.sub_zero, Nat.le_refl,
    sets, List.cons.injEq, inR_i64, inR_u64, inR_u32, inR_i32, inR_u8, dB_True, dB_False, dB_neg, dB_beq_true, dB_beq_false, maxLen_eq, true_and, and_true, Bool.not_true, Bool.not_false, Bool.false_eq_true, Bool.not_eq_true, retQ_nrm, retQ_ret, resD_t, resT, Option.some.injEq, D.sl.injEq, D.int.injEq, D.bool.injEq, and_self, ne_eq, not_false_eq_true, not_true_eq_false, forall_const, D.flat, D.flat0, D.simple, Int.reduceLT, Int.reduceLE, Int.reduceEq, Int.reduceNeg, Int.reduceSub, Int.reduceAdd, Int.reduceMul, Int.ofNat_eq_natCast, imp_self, implies_true, false_implies]
  refine ⟨fun h => by omega, fun _ => ⟨fun h => by omega, fun _ => ?_⟩⟩
  refine loopF_of (fun E => ∃ k : Nat, k ≤ l.length ∧ E = [(0, .sl l.length (lays l)), (14, .sl l.length (lays l)), (15, .int .i64 l.length), (16, .int .i64 k)])
    (fun E => match lk E 16 with | .int _ i => l.length - i.toNat | _ => 0) ⟨0, Nat.zero_le _, rfl⟩ ?_
  rintro _ ⟨k, hk, rfl⟩
  simp only [initE, wC_seq, wC_reg, wC_cnd, wC_blk, wC_loop, wC_exit, wC_skip, wC_ret, wC_bad, GB_eq, zap_nil, zap_cons, lgF_g, lgF_b, sgOF_g, sgOF_b, sgPF_g, sgPF_b, Nat.reduceBNe, Nat.reduceLT, wC_rfn, wC_cus, asgK_nrm, bodK_nrm, wE_nil, wE_none, wE_st, wE_some, regK_eq, seqK_nrm, seqK_exit, seqK_ret, blkK_nrm, blkK_exit, blkK_ret, loopK_nrm, loopK_exit, loopK_ret,
    cndF_t, cndF_f, cndF_p, grdF_t, grdF_f, grdF_s, grdF_pt, grdF_pf, stepF, ev_v, ev_k, ev_o, oev_al, oev_int, oev_sl, oev_str, oev_agg, oev_pt, oev_bool, lk_cons, lk_nil, st1_cons, st1_nil, keepE_cons, keepE_nil, D.clean, reduceIte, Nat.reduceEqDiff,
    putF_int, putF_bool, putF_str, putF_sl, putF_agg, putF_tup, putF_pt, putF_clo, putF_err, mvF, moF, tkF, shF, ariF, ciF, catF, scF, ebF, eqF, eqOk, eqPr, enF, notF, ngF, cvF, csF, csbF, cbsF_s, cbsF_o, lenF, lenSF, ixF, iaF, PX.slot, iaAF, atV, atO, faF, ldF, ldC_ints, ldC_ints', ldC_aggc, ldC_cons, D.mem, stF, stG_ints, stG_box, bxF, mkSF, appF_oo, appF_os, ints_app, ints_snoc, ints_length, ints_nil, cut_ints, slcF_o, slcF_s, slc2_eq, slSF_eq, slS2_eq, boundF, Option.map_some, Option.map_none, mkfF_eq, capt_eq, captD_box, captD_pt, extF_eq, extO_eq, List.getElem?_cons_zero, List.getElem?_cons_succ, pickF_t, pickF_f, pickF_p, fldF, mmF2,
    lend_eq, List.map_cons, List.map_nil, D.plain, D.isPure, optAll, dulls_nil, dulls_v, dulls_k, dulls_o, D.dull, callVF, bldF_eq, bldSF_eq, fillD_nil, fillD_cons, splice, D.cells, D.one, List.length_cons, List.length_nil, List.all_cons, List.all_nil, Bool.and_self, Bool.and_true, Bool.true_and, List.take_succ_cons, List.take_zero, List.drop_succ_cons, List.drop_zero, List.nil_append, List.cons_append, List.append_nil, List.drop_nil, List.take_nil, List.replicate_succ, List.replicate_zero, List.flatten_cons, List.flatten_nil, Nat.reduceAdd, Nat.reduceMul, Nat.reduceSub, Nat.reduceLeDiff, Nat.zero_add, Nat.add_zero, Nat.mul_one, Nat.one_mul, Nat.zero_mul, Nat.zero_le, Int.toNat_natCast, Int.toNat_zero, Int.reduceToNat, Nat.sub_zero, Nat.le_refl,
    sets, List.cons.injEq, inR_i64, inR_u64, inR_u32, inR_i32, inR_u8, dB_True, dB_False, dB_neg, dB_beq_true, dB_beq_false, maxLen_eq, true_and, and_true, Bool.not_true, Bool.not_false, Bool.false_eq_true, Bool.not_eq_true, retQ_nrm, retQ_ret, resD_t, resT, Option.some.injEq, D.sl.injEq, D.int.injEq, D.bool.injEq, and_self, ne_eq, not_false_eq_true, not_true_eq_false, forall_const, D.flat, D.flat0, D.simple, Int.reduceLT, Int.reduceLE, Int.reduceEq, Int.reduceNeg, Int.reduceSub, Int.reduceAdd, Int.reduceMul, Int.ofNat_eq_natCast, imp_self, implies_true, false_implies, ldC_lays, Lay.d]
  intro h1
  have hx : l[k]? = some (l[k]'(by omega)) := List.getElem?_eq_getElem (by omega)
  have hpre : ∀ y ∈ l.take k, (y.u == (l[k]'(by omega)).u) = false := by
    intro y hy
    obtain ⟨j, hj⟩ := List.getElem?_of_mem hy
    rw [List.getElem?_take] at hj
    split at hj <;> try (cases hj; done)
    rename_i hjk
    obtain ⟨hj2, rfl⟩ := List.getElem?_eq_some_iff.1 hj
    rw [beq_eq_false_iff_ne]
    intro e
    have := (List.nodup_iff_pairwise_ne.1 hd)
    rw [List.pairwise_iff_getElem] at this
    exact this j k (by simpa using hj2) (by simpa using (by omega : k < l.length)) hjk (by simpa using e)
  generalize l[k]'(by omega) = x at hx hpre
  have ok := h x (List.mem_of_getElem? hx)
  refine ⟨⟨by omega, by rw [rows_length Lay.d_len]; omega⟩, x, hx, ?_⟩
  refine callF_of (Tryz.c77 x ok.n1 ok.n2) ?_
  simp only [initE, wC_seq, wC_reg, wC_cnd, wC_blk, wC_loop, wC_exit, wC_skip, wC_ret, wC_bad, GB_eq, zap_nil, zap_cons, lgF_g, lgF_b, sgOF_g, sgOF_b, sgPF_g, sgPF_b, Nat.reduceBNe, Nat.reduceLT, wC_rfn, wC_cus, asgK_nrm, bodK_nrm, wE_nil, wE_none, wE_st, wE_some, regK_eq, seqK_nrm, seqK_exit, seqK_ret, blkK_nrm, blkK_exit, blkK_ret, loopK_nrm, loopK_exit, loopK_ret,
    cndF_t, cndF_f, cndF_p, grdF_t, grdF_f, grdF_s, grdF_pt, grdF_pf, stepF, ev_v, ev_k, ev_o, oev_al, oev_int, oev_sl, oev_str, oev_agg, oev_pt, oev_bool, lk_cons, lk_nil, st1_cons, st1_nil, keepE_cons, keepE_nil, D.clean, reduceIte, Nat.reduceEqDiff,
    putF_int, putF_bool, putF_str, putF_sl, putF_agg, putF_tup, putF_pt, putF_clo, putF_err, mvF, moF, tkF, shF, ariF, ciF, catF, scF, ebF, eqF, eqOk, eqPr, enF, notF, ngF, cvF, csF, csbF, cbsF_s, cbsF_o, lenF, lenSF, ixF, iaF, PX.slot, iaAF, atV, atO, faF, ldF, ldC_ints, ldC_ints', ldC_aggc, ldC_cons, D.mem, stF, stG_ints, stG_box, bxF, mkSF, appF_oo, appF_os, ints_app, ints_snoc, ints_length, ints_nil, cut_ints, slcF_o, slcF_s, slc2_eq, slSF_eq, slS2_eq, boundF, Option.map_some, Option.map_none, mkfF_eq, capt_eq, captD_box, captD_pt, extF_eq, extO_eq, List.getElem?_cons_zero, List.getElem?_cons_succ, pickF_t, pickF_f, pickF_p, fldF, mmF2,
    lend_eq, List.map_cons, List.map_nil, D.plain, D.isPure, optAll, dulls_nil, dulls_v, dulls_k, dulls_o, D.dull, callVF, bldF_eq, bldSF_eq, fillD_nil, fillD_cons, splice, D.cells, D.one, List.length_cons, List.length_nil, List.all_cons, List.all_nil, Bool.and_self, Bool.and_true, Bool.true_and, List.take_succ_cons, List.take_zero, List.drop_succ_cons, List.drop_zero, List.nil_append, List.cons_append, List.append_nil, List.drop_nil, List.take_nil, List.replicate_succ, List.replicate_zero, List.flatten_cons, List.flatten_nil, Nat.reduceAdd, Nat.reduceMul, Nat.reduceSub, Nat.reduceLeDiff, Nat.zero_add, Nat.add_zero, Nat.mul_one, Nat.one_mul, Nat.zero_mul, Nat.zero_le, Int.toNat_natCast, Int.toNat_zero, Int.reduceToNat, Nat.sub_zero, Nat.le_refl,
    sets, List.cons.injEq, inR_i64, inR_u64, inR_u32, inR_i32, inR_u8, dB_True, dB_False, dB_neg, dB_beq_true, dB_beq_false, maxLen_eq, true_and, and_true, Bool.not_true, Bool.not_false, Bool.false_eq_true, Bool.not_eq_true, retQ_nrm, retQ_ret, resD_t, resT, Option.some.injEq, D.sl.injEq, D.int.injEq, D.bool.injEq, and_self, ne_eq, not_false_eq_true, not_true_eq_false, forall_const, D.flat, D.flat0, D.simple, Int.reduceLT, Int.reduceLE, Int.reduceEq, Int.reduceNeg, Int.reduceSub, Int.reduceAdd, Int.reduceMul, Int.ofNat_eq_natCast, imp_self, implies_true, false_implies]
  refine callF_of ok.nm ?_
  simp only [initE, wC_seq, wC_reg, wC_cnd, wC_blk, wC_loop, wC_exit, wC_skip, wC_ret, wC_bad, GB_eq, zap_nil, zap_cons, lgF_g, lgF_b, sgOF_g, sgOF_b, sgPF_g, sgPF_b, Nat.reduceBNe, Nat.reduceLT, wC_rfn, wC_cus, asgK_nrm, bodK_nrm, wE_nil, wE_none, wE_st, wE_some, regK_eq, seqK_nrm, seqK_exit, seqK_ret, blkK_nrm, blkK_exit, blkK_ret, loopK_nrm, loopK_exit, loopK_ret,
    cndF_t, cndF_f, cndF_p, grdF_t, grdF_f, grdF_s, grdF_pt, grdF_pf, stepF, ev_v, ev_k, ev_o, oev_al, oev_int, oev_sl, oev_str, oev_agg, oev_pt, oev_bool, lk_cons, lk_nil, st1_cons, st1_nil, keepE_cons, keepE_nil, D.clean, reduceIte, Nat.reduceEqDiff,
    putF_int, putF_bool, putF_str, putF_sl, putF_agg, putF_tup, putF_pt, putF_clo, putF_err, mvF, moF, tkF, shF, ariF, ciF, catF, scF, ebF, eqF, eqOk, eqPr, enF, notF, ngF, cvF, csF, csbF, cbsF_s, cbsF_o, lenF, lenSF, ixF, iaF, PX.slot, iaAF, atV, atO, faF, ldF, ldC_ints, ldC_ints', ldC_aggc, ldC_cons, D.mem, stF, stG_ints, stG_box, bxF, mkSF, appF_oo, appF_os, ints_app, ints_snoc, ints_length, ints_nil, cut_ints, slcF_o, slcF_s, slc2_eq, slSF_eq, slS2_eq, boundF, Option.map_some, Option.map_none, mkfF_eq, capt_eq, captD_box, captD_pt, extF_eq, extO_eq, List.getElem?_cons_zero, List.getElem?_cons_succ, pickF_t, pickF_f, pickF_p, fldF, mmF2,
    lend_eq, List.map_cons, List.map_nil, D.plain, D.isPure, optAll, dulls_nil, dulls_v, dulls_k, dulls_o, D.dull, callVF, bldF_eq, bldSF_eq, fillD_nil, fillD_cons, splice, D.cells, D.one, List.length_cons, List.length_nil, List.all_cons, List.all_nil, Bool.and_self, Bool.and_true, Bool.true_and, List.take_succ_cons, List.take_zero, List.drop_succ_cons, List.drop_zero, List.nil_append, List.cons_append, List.append_nil, List.drop_nil, List.take_nil, List.replicate_succ, List.replicate_zero, List.flatten_cons, List.flatten_nil, Nat.reduceAdd, Nat.reduceMul, Nat.reduceSub, Nat.reduceLeDiff, Nat.zero_add, Nat.add_zero, Nat.mul_one, Nat.one_mul, Nat.zero_mul, Nat.zero_le, Int.toNat_natCast, Int.toNat_zero, Int.reduceToNat, Nat.sub_zero, Nat.le_refl,
    sets, List.cons.injEq, inR_i64, inR_u64, inR_u32, inR_i32, inR_u8, dB_True, dB_False, dB_neg, dB_beq_true, dB_beq_false, maxLen_eq, true_and, and_true, Bool.not_true, Bool.not_false, Bool.false_eq_true, Bool.not_eq_true, retQ_nrm, retQ_ret, resD_t, resT, Option.some.injEq, D.sl.injEq, D.int.injEq, D.bool.injEq, and_self, ne_eq, not_false_eq_true, not_true_eq_false, forall_const, D.flat, D.flat0, D.simple, Int.reduceLT, Int.reduceLE, Int.reduceEq, Int.reduceNeg, Int.reduceSub, Int.reduceAdd, Int.reduceMul, Int.ofNat_eq_natCast, imp_self, implies_true, false_implies]
  have hck := Tryz.c56 (l.take k) x.u (by rw [List.length_take]; omega)
  rw [show (l.take k).length = k by rw [List.length_take]; omega, show idx (fun y : Lay => y.u == x.u) (l.take k) = -1 from idxA_none hpre] at hck
  refine ⟨by omega, by omega, by omega, by rw [rows_length Lay.d_len], ?_⟩
  rw [cut_rows Lay.d_len, List.drop_zero]
  refine callF_of hck ?_
  simp only [initE, wC_seq, wC_reg, wC_cnd, wC_blk, wC_loop, wC_exit, wC_skip, wC_ret, wC_bad, GB_eq, zap_nil, zap_cons, lgF_g, lgF_b, sgOF_g, sgOF_b, sgPF_g, sgPF_b, Nat.reduceBNe, Nat.reduceLT, wC_rfn, wC_cus, asgK_nrm, bodK_nrm, wE_nil, wE_none, wE_st, wE_some, regK_eq, seqK_nrm, seqK_exit, seqK_ret, blkK_nrm, blkK_exit, blkK_ret, loopK_nrm, loopK_exit, loopK_ret,
    cndF_t, cndF_f, cndF_p, grdF_t, grdF_f, grdF_s, grdF_pt, grdF_pf, stepF, ev_v, ev_k, ev_o, oev_al, oev_int, oev_sl, oev_str, oev_agg, oev_pt, oev_bool, lk_cons, lk_nil, st1_cons, st1_nil, keepE_cons, keepE_nil, D.clean, reduceIte, Nat.reduceEqDiff,
    putF_int, putF_bool, putF_str, putF_sl, putF_agg, putF_tup, putF_pt, putF_clo, putF_err, mvF, moF, tkF, shF, ariF, ciF, catF, scF, ebF, eqF, eqOk, eqPr, enF, notF, ngF, cvF, csF, csbF, cbsF_s, cbsF_o, lenF, lenSF, ixF, iaF, PX.slot, iaAF, atV, atO, faF, ldF, ldC_ints, ldC_ints', ldC_aggc, ldC_cons, D.mem, stF, stG_ints, stG_box, bxF, mkSF, appF_oo, appF_os, ints_app, ints_snoc, ints_length, ints_nil, cut_ints, slcF_o, slcF_s, slc2_eq, slSF_eq, slS2_eq, boundF, Option.map_some, Option.map_none, mkfF_eq, capt_eq, captD_box, captD_pt, extF_eq, extO_eq, List.getElem?_cons_zero, List.getElem?_cons_succ, pickF_t, pickF_f, pickF_p, fldF, mmF2,
    lend_eq, List.map_cons, List.map_nil, D.plain, D.isPure, optAll, dulls_nil, dulls_v, dulls_k, dulls_o, D.dull, callVF, bldF_eq, bldSF_eq, fillD_nil, fillD_cons, splice, D.cells, D.one, List.length_cons, List.length_nil, List.all_cons, List.all_nil, Bool.and_self, Bool.and_true, Bool.true_and, List.take_succ_cons, List.take_zero, List.drop_succ_cons, List.drop_zero, List.nil_append, List.cons_append, List.append_nil, List.drop_nil, List.take_nil, List.replicate_succ, List.replicate_zero, List.flatten_cons, List.flatten_nil, Nat.reduceAdd, Nat.reduceMul, Nat.reduceSub, Nat.reduceLeDiff, Nat.zero_add, Nat.add_zero, Nat.mul_one, Nat.one_mul, Nat.zero_mul, Nat.zero_le, Int.toNat_natCast, Int.toNat_zero, Int.reduceToNat, Nat.sub_zero, Nat.le_refl,
    sets, List.cons.injEq, inR_i64, inR_u64, inR_u32, inR_i32, inR_u8, dB_True, dB_False, dB_neg, dB_beq_true, dB_beq_false, maxLen_eq, true_and, and_true, Bool.not_true, Bool.not_false, Bool.false_eq_true, Bool.not_eq_true, retQ_nrm, retQ_ret, resD_t, resT, Option.some.injEq, D.sl.injEq, D.int.injEq, D.bool.injEq, and_self, ne_eq, not_false_eq_true, not_true_eq_false, forall_const, D.flat, D.flat0, D.simple, Int.reduceLT, Int.reduceLE, Int.reduceEq, Int.reduceNeg, Int.reduceSub, Int.reduceAdd, Int.reduceMul, Int.ofNat_eq_natCast, imp_self, implies_true, false_implies]
  obtain ⟨c, hc0, hc⟩ := ok.sg
  refine callF_of hc ?_
  simp only [initE, wC_seq, wC_reg, wC_cnd, wC_blk, wC_loop, wC_exit, wC_skip, wC_ret, wC_bad, GB_eq, zap_nil, zap_cons, lgF_g, lgF_b, sgOF_g, sgOF_b, sgPF_g, sgPF_b, Nat.reduceBNe, Nat.reduceLT, wC_rfn, wC_cus, asgK_nrm, bodK_nrm, wE_nil, wE_none, wE_st, wE_some, regK_eq, seqK_nrm, seqK_exit, seqK_ret, blkK_nrm, blkK_exit, blkK_ret, loopK_nrm, loopK_exit, loopK_ret,
    cndF_t, cndF_f, cndF_p, grdF_t, grdF_f, grdF_s, grdF_pt, grdF_pf, stepF, ev_v, ev_k, ev_o, oev_al, oev_int, oev_sl, oev_str, oev_agg, oev_pt, oev_bool, lk_cons, lk_nil, st1_cons, st1_nil, keepE_cons, keepE_nil, D.clean, reduceIte, Nat.reduceEqDiff,
    putF_int, putF_bool, putF_str, putF_sl, putF_agg, putF_tup, putF_pt, putF_clo, putF_err, mvF, moF, tkF, shF, ariF, ciF, catF, scF, ebF, eqF, eqOk, eqPr, enF, notF, ngF, cvF, csF, csbF, cbsF_s, cbsF_o, lenF, lenSF, ixF, iaF, PX.slot, iaAF, atV, atO, faF, ldF, ldC_ints, ldC_ints', ldC_aggc, ldC_cons, D.mem, stF, stG_ints, stG_box, bxF, mkSF, appF_oo, appF_os, ints_app, ints_snoc, ints_length, ints_nil, cut_ints, slcF_o, slcF_s, slc2_eq, slSF_eq, slS2_eq, boundF, Option.map_some, Option.map_none, mkfF_eq, capt_eq, captD_box, captD_pt, extF_eq, extO_eq, List.getElem?_cons_zero, List.getElem?_cons_succ, pickF_t, pickF_f, pickF_p, fldF, mmF2,
    lend_eq, List.map_cons, List.map_nil, D.plain, D.isPure, optAll, dulls_nil, dulls_v, dulls_k, dulls_o, D.dull, callVF, bldF_eq, bldSF_eq, fillD_nil, fillD_cons, splice, D.cells, D.one, List.length_cons, List.length_nil, List.all_cons, List.all_nil, Bool.and_self, Bool.and_true, Bool.true_and, List.take_succ_cons, List.take_zero, List.drop_succ_cons, List.drop_zero, List.nil_append, List.cons_append, List.append_nil, List.drop_nil, List.take_nil, List.replicate_succ, List.replicate_zero, List.flatten_cons, List.flatten_nil, Nat.reduceAdd, Nat.reduceMul, Nat.reduceSub, Nat.reduceLeDiff, Nat.zero_add, Nat.add_zero, Nat.mul_one, Nat.one_mul, Nat.zero_mul, Nat.zero_le, Int.toNat_natCast, Int.toNat_zero, Int.reduceToNat, Nat.sub_zero, Nat.le_refl,
    sets, List.cons.injEq, inR_i64, inR_u64, inR_u32, inR_i32, inR_u8, dB_True, dB_False, dB_neg, dB_beq_true, dB_beq_false, maxLen_eq, true_and, and_true, Bool.not_true, Bool.not_false, Bool.false_eq_true, Bool.not_eq_true, retQ_nrm, retQ_ret, resD_t, resT, Option.some.injEq, D.sl.injEq, D.int.injEq, D.bool.injEq, and_self, ne_eq, not_false_eq_true, not_true_eq_false, forall_const, D.flat, D.flat0, D.simple, Int.reduceLT, Int.reduceLE, Int.reduceEq, Int.reduceNeg, Int.reduceSub, Int.reduceAdd, Int.reduceMul, Int.ofNat_eq_natCast, imp_self, implies_true, false_implies]
  refine ⟨fun h => by omega, fun _ => ?_⟩
  refine ⟨fun hb => ?_, fun hb => ?_⟩
  · obtain ⟨c2, hc20, hc2⟩ := ok.cm hb
    refine callF_of hc2 ?_
    simp only [initE, wC_seq, wC_reg, wC_cnd, wC_blk, wC_loop, wC_exit, wC_skip, wC_ret, wC_bad, GB_eq, zap_nil, zap_cons, lgF_g, lgF_b, sgOF_g, sgOF_b, sgPF_g, sgPF_b, Nat.reduceBNe, Nat.reduceLT, wC_rfn, wC_cus, asgK_nrm, bodK_nrm, wE_nil, wE_none, wE_st, wE_some, regK_eq, seqK_nrm, seqK_exit, seqK_ret, blkK_nrm, blkK_exit, blkK_ret, loopK_nrm, loopK_exit, loopK_ret,
    cndF_t, cndF_f, cndF_p, grdF_t, grdF_f, grdF_s, grdF_pt, grdF_pf, stepF, ev_v, ev_k, ev_o, oev_al, oev_int, oev_sl, oev_str, oev_agg, oev_pt, oev_bool, lk_cons, lk_nil, st1_cons, st1_nil, keepE_cons, keepE_nil, D.clean, reduceIte, Nat.reduceEqDiff,
    putF_int, putF_bool, putF_str, putF_sl, putF_agg, putF_tup, putF_pt, putF_clo, putF_err, mvF, moF, tkF, shF, ariF, ciF, catF, scF, ebF, eqF, eqOk, eqPr, enF, notF, ngF, cvF, csF, csbF, cbsF_s, cbsF_o, lenF, lenSF, ixF, iaF, PX.slot, iaAF, atV, atO, faF, ldF, ldC_ints, ldC_ints', ldC_aggc, ldC_cons, D.mem, stF, stG_ints, stG_box, bxF, mkSF, appF_oo, appF_os, ints_app, ints_snoc, ints_length, ints_nil, cut_ints, slcF_o, slcF_s, slc2_eq, slSF_eq, slS2_eq, boundF, Option.map_some, Option.map_none, mkfF_eq, capt_eq, captD_box, captD_pt, extF_eq, extO_eq, List.getElem?_cons_zero, List.getElem?_cons_succ, pickF_t, pickF_f, pickF_p, fldF, mmF2,
    lend_eq, List.map_cons, List.map_nil, D.plain, D.isPure, optAll, dulls_nil, dulls_v, dulls_k, dulls_o, D.dull, callVF, bldF_eq, bldSF_eq, fillD_nil, fillD_cons, splice, D.cells, D.one, List.length_cons, List.length_nil, List.all_cons, List.all_nil, Bool.and_self, Bool.and_true, Bool.true_and, List.take_succ_cons, List.take_zero, List.drop_succ_cons, List.drop_zero, List.nil_append, List.cons_append, List.append_nil, List.drop_nil, List.take_nil, List.replicate_succ, List.replicate_zero, List.flatten_cons, List.flatten_nil, Nat.reduceAdd, Nat.reduceMul, Nat.reduceSub, Nat.reduceLeDiff, Nat.zero_add, Nat.add_zero, Nat.mul_one, Nat.one_mul, Nat.zero_mul, Nat.zero_le, Int.toNat_natCast, Int.toNat_zero, Int.reduceToNat, Nat.sub_zero, Nat.le_refl,
    sets, List.cons.injEq, inR_i64, inR_u64, inR_u32, inR_i32, inR_u8, dB_True, dB_False, dB_neg, dB_beq_true, dB_beq_false, maxLen_eq, true_and, and_true, Bool.not_true, Bool.not_false, Bool.false_eq_true, Bool.not_eq_true, retQ_nrm, retQ_ret, resD_t, resT, Option.some.injEq, D.sl.injEq, D.int.injEq, D.bool.injEq, and_self, ne_eq, not_false_eq_true, not_true_eq_false, forall_const, D.flat, D.flat0, D.simple, Int.reduceLT, Int.reduceLE, Int.reduceEq, Int.reduceNeg, Int.reduceSub, Int.reduceAdd, Int.reduceMul, Int.ofNat_eq_natCast, imp_self, implies_true, false_implies]
    exact ⟨fun h => by omega, fun _ => ⟨by omega, ⟨k + 1, by omega, rfl⟩, by omega⟩⟩
  · exact ⟨by omega, ⟨k + 1, by omega, rfl⟩, by omega⟩
end Go.Proofs

/-
  SEAT 22: the numbers of plans; known(). Own work.
-/
namespace Go.Proofs
open Go Go.Pi Go.RowKit

/-- a number below 100 in digits; k halves -/
def dec2 (n : Nat) : List UInt8 := if n < 10 then [UInt8.ofNat (48 + n)] else [UInt8.ofNat (48 + n / 10), UInt8.ofNat (48 + n % 10)]
def half (k : Nat) : List UInt8 := if k % 2 = 0 then dec2 (k / 2) else dec2 k ++ [47, 50]

theorem all_range {n : Nat} {p : Nat → Bool} (h : (List.range n).all p = true) : ∀ k, k < n → p k = true := fun k hk => List.all_eq_true.1 h k (List.mem_range.2 hk)
theorem all_range2 {n m : Nat} {p : Nat → Nat → Bool} (h : ((List.range n).all fun a => (List.range m).all (p a)) = true) : ∀ a b, a < n → b < m → p a b = true := fun a b ha hb => all_range (all_range h a ha) b hb

theorem run16 : ((List.range 8).all fun a => outS (runJ tab22 1000 (.call 16 [.int .i64 a, .int .i64 2])) (half a)) = true := by kernel_rfl
theorem run25 : ((List.range 4).all fun a => (List.range 7).all fun b => outS (runJ tab22 1000 (.call 25 [.str (half a), .str (half b)])) (half (a + b))) = true := by kernel_rfl
theorem run62 : ((List.range 20).all fun a => outI (runJ tab22 1000 (.call 62 [.str (half a)])) 0) = true := by kernel_rfl
theorem run78 : ((List.range 10).all fun a => outI (runJ tab22 1000 (.call 78 [.str (half a)])) (if a = 0 then 0 else 1)) = true := by kernel_rfl
theorem run79 : ((List.range 4).all fun a => (List.range 7).all fun b => outI (runJ tab22 1000 (.call 79 [.str (half (a + b)), .str (half a)])) (if b = 0 then 0 else 1)) = true := by kernel_rfl
theorem run68 : ((List.range 6).all fun a => outB (runJ tab22 1000 (.call 68 [.str [UInt8.ofNat (65 + a)]])) true) = true := by kernel_rfl

theorem Tryz.c16 (a : Nat) (h : a < 8) : Con Tryz.prog Tryz.L 16 [.int .i64 a, .int .i64 2] (.str (half a)) := con_run Tryz.hL tab22_ok 1000 (outS_ok (all_range run16 a h))
theorem Tryz.c25 (a b : Nat) (ha : a < 4) (hb : b < 7) : Con Tryz.prog Tryz.L 25 [.str (half a), .str (half b)] (.str (half (a + b))) := con_run Tryz.hL tab22_ok 1000 (outS_ok (all_range2 run25 a b ha hb))
theorem Tryz.c62 (a : Nat) (h : a < 20) : Con Tryz.prog Tryz.L 62 [.str (half a)] (.int .i64 0) := con_run Tryz.hL tab22_ok 1000 (outI_ok (all_range run62 a h))
theorem Tryz.c78 (a : Nat) (h : a < 10) : Con Tryz.prog Tryz.L 78 [.str (half a)] (.int .i64 (if a = 0 then 0 else 1)) := con_run Tryz.hL tab22_ok 1000 (outI_ok (all_range run78 a h))
theorem Tryz.c79 (a b : Nat) (ha : a < 4) (hb : b < 7) : Con Tryz.prog Tryz.L 79 [.str (half (a + b)), .str (half a)] (.int .i64 (if b = 0 then 0 else 1)) := con_run Tryz.hL tab22_ok 1000 (outI_ok (all_range2 run79 a b ha hb))
theorem Tryz.c68 (a : Nat) (h : a < 6) : Con Tryz.prog Tryz.L 68 [.str [UInt8.ofNat (65 + a)]] (.bool true) := con_run Tryz.hL tab22_ok 1000 (outB_ok (all_range run68 a h))

/-- the layer of unit k, with a halves as its least, and b more as its most (7: none) -/
def layOf (k a b : Nat) : Lay := ⟨[UInt8.ofNat (65 + k)], half a, if b = 7 then [] else half (a + b)⟩

theorem half_ne (a : Nat) : half a ≠ [] := by unfold half dec2; split <;> split <;> simp

theorem layOf_ok (k a b : Nat) (hk : k < 6) (ha : a < 4) (hb : b < 8) : LayOk (layOf k a b) := by
  refine ⟨Tryz.c62 a (by omega), fun h => ?_, Tryz.c68 k hk, ⟨_, ?_, Tryz.c78 a (by omega)⟩, fun h => ?_⟩
  · simp only [layOf] at h ⊢
    split at h
    · exact absurd rfl h
    · rename_i hb7; rw [if_neg hb7]; exact Tryz.c62 _ (by omega)
  · split <;> omega
  · simp only [layOf] at h ⊢
    split at h
    · exact absurd rfl h
    · rename_i hb7; rw [if_neg hb7]; exact ⟨_, by split <;> omega, Tryz.c79 a b ha (by omega)⟩

def exampleL : List Lay := [layOf 0 2 2, layOf 1 0 6, layOf 2 2 7]
theorem half_small (a : Nat) : (half a).length ≤ 10 := by unfold half dec2; split <;> split <;> simp
theorem layOf_small (k a b : Nat) : (layOf k a b).small := by
  refine ⟨by simp [layOf], by have := half_small a; simp only [layOf]; omega, ?_⟩
  simp only [layOf]
  split
  · simp
  · have := half_small (a + b); omega

theorem Tryz.c13ex : Con Tryz.prog Tryz.L 13 [.sl 3 (lays exampleL)] (.tup [.sl 3 (strs (exampleL.reverse.map Lay.line)), .int .i64 0]) := by
  refine Tryz.c13 exampleL (fun x hx => ?_) (by decide) (Tryz.c45 exampleL (by decide) (by decide) (by decide) fun x hx => ?_)
  all_goals
    simp only [exampleL, List.mem_cons, List.not_mem_nil, or_false] at hx
    rcases hx with rfl | rfl | rfl
  all_goals first
    | exact layOf_small _ _ _
    | exact layOf_ok _ _ _ (by omega) (by omega) (by omega)

def extK (f : Nat) (ds : List D) : Option D :=
  match f, ds with
  | 13, [.sl 3 [.str [65], .str [49], .str [50], .str [66], .str [48], .str [51], .str [67], .str [49], .str []]] => some (.tup [.sl 3 (strs (exampleL.reverse.map Lay.line)), .int .i64 0])
  | f, ds => ext22 f ds
theorem extK_ok (f : Nat) (ds : List D) (r : D) (h : extK f ds = some r) : Con Tryz.prog Tryz.L f ds r := by
  unfold extK at h
  split at h
  · cases h; exact Tryz.c13ex
  · exact ext22_ok _ _ _ h
def tabK : Tab := ⟨tabFn, extK⟩
theorem tabK_ok : tabK.Ok Tryz.prog Tryz.L := ⟨tabFn_ok, extK_ok⟩

theorem run11 : outB (runJ tabK 2000 (.call 11 [])) true = true := by kernel_rfl
theorem Tryz.c11 : Con Tryz.prog Tryz.L 11 [] (.bool true) := con_run Tryz.hL tabK_ok 2000 (outB_ok run11)
end Go.Proofs

/-
  SEAT 22: slices.Clone; Make; slices.Equal. Own work.
-/
namespace Go.Proofs
open Go Go.Pi Go.RowKit

theorem cu49 {L : World → Prop} : ∀ c, Tryz.f49.body = some c → ∀ q ∈ cusL c pc49, CusOk Tryz.prog L q.1 q.2.1 q.2.2 := by
  intro c hc q hq
  cases Option.some.inj hc
  simp only [pc49, cusL, List.nil_append, List.append_nil, List.mem_singleton, List.cons_append] at hq
  subst hq
  exact nilT_ok rfl rfl rfl rfl rfl rfl rfl Tryz.underlying22 (by decide) (by decide) (by decide)

theorem Tryz.c49 (n : Nat) (cs : List D) (hn : cs.length = n) (hb : n ≤ 140737488355328) : Con Tryz.prog Tryz.L 49 [.sl n cs] (.own true 5 n cs) := by
  refine rule49 Tryz.hL (fun q hq => by simp [PC.backs, pc49] at hq) cu49 rfl rfl rfl ?_
  simp only [pc49, rs49, nilT_f, initE, wC_seq, wC_reg, wC_cnd, wC_blk, wC_loop, wC_exit, wC_skip, wC_ret, wC_bad, GB_eq, zap_nil, zap_cons, lgF_g, lgF_b, sgOF_g, sgOF_b, sgPF_g, sgPF_b, Nat.reduceBNe, Nat.reduceLT, wC_rfn, wC_cus, asgK_nrm, bodK_nrm, wE_nil, wE_none, wE_st, wE_some, regK_eq, seqK_nrm, seqK_exit, seqK_ret, blkK_nrm, blkK_exit, blkK_ret, loopK_nrm, loopK_exit, loopK_ret,
    cndF_t, cndF_f, cndF_p, grdF_t, grdF_f, grdF_s, grdF_pt, grdF_pf, stepF, ev_v, ev_k, ev_o, oev_al, oev_int, oev_sl, oev_str, oev_agg, oev_pt, oev_bool, lk_cons, lk_nil, st1_cons, st1_nil, keepE_cons, keepE_nil, D.clean, reduceIte, Nat.reduceEqDiff,
    putF_int, putF_bool, putF_str, putF_sl, putF_agg, putF_tup, putF_pt, putF_clo, putF_err, mvF, moF, tkF, shF, ariF, ciF, catF, scF, ebF, eqF, eqOk, eqPr, enF, notF, ngF, cvF, csF, csbF, cbsF_s, cbsF_o, lenF, lenSF, ixF, iaF, PX.slot, iaAF, atV, atO, faF, ldF, ldC_ints, ldC_ints', ldC_aggc, ldC_cons, D.mem, stF, stG_ints, stG_box, bxF, mkSF, appF_oo, appF_os, ints_app, ints_snoc, ints_length, ints_nil, cut_ints, slcF_o, slcF_s, slc2_eq, slSF_eq, slS2_eq, boundF, Option.map_some, Option.map_none, mkfF_eq, capt_eq, captD_box, captD_pt, extF_eq, extO_eq, List.getElem?_cons_zero, List.getElem?_cons_succ, pickF_t, pickF_f, pickF_p, fldF, mmF2,
    lend_eq, List.map_cons, List.map_nil, D.plain, D.isPure, optAll, dulls_nil, dulls_v, dulls_k, dulls_o, D.dull, callVF, bldF_eq, bldSF_eq, fillD_nil, fillD_cons, splice, D.cells, D.one, List.length_cons, List.length_nil, List.all_cons, List.all_nil, Bool.and_self, Bool.and_true, Bool.true_and, List.take_succ_cons, List.take_zero, List.drop_succ_cons, List.drop_zero, List.nil_append, List.cons_append, List.append_nil, List.drop_nil, List.take_nil, List.replicate_succ, List.replicate_zero, List.flatten_cons, List.flatten_nil, Nat.reduceAdd, Nat.reduceMul, Nat.reduceSub, Nat.reduceLeDiff, Nat.zero_add, Nat.add_zero, Nat.mul_one, Nat.one_mul, Nat.zero_mul, Nat.zero_le, Int.toNat_natCast, Int.toNat_zero, Int.reduceToNat, Nat.sub_zero, Nat.le_refl,
    sets, List.cons.injEq, inR_i64, inR_u64, inR_u32, inR_i32, inR_u8, dB_True, dB_False, dB_neg, dB_beq_true, dB_beq_false, maxLen_eq, true_and, and_true, Bool.not_true, Bool.not_false, Bool.false_eq_true, Bool.not_eq_true, retQ_nrm, retQ_ret, resD_t, resT, Option.some.injEq, D.sl.injEq, D.int.injEq, D.bool.injEq, and_self, ne_eq, not_false_eq_true, not_true_eq_false, forall_const, D.flat, D.flat0, D.simple, Int.reduceLT, Int.reduceLE, Int.reduceEq, Int.reduceNeg, Int.reduceSub, Int.reduceAdd, Int.reduceMul, Int.ofNat_eq_natCast, imp_self, implies_true, false_implies]
  refine ⟨n, cs, rfl, fun b hb0 => ?_⟩
  cases b
  · simp only [initE, wC_seq, wC_reg, wC_cnd, wC_blk, wC_loop, wC_exit, wC_skip, wC_ret, wC_bad, GB_eq, zap_nil, zap_cons, lgF_g, lgF_b, sgOF_g, sgOF_b, sgPF_g, sgPF_b, Nat.reduceBNe, Nat.reduceLT, wC_rfn, wC_cus, asgK_nrm, bodK_nrm, wE_nil, wE_none, wE_st, wE_some, regK_eq, seqK_nrm, seqK_exit, seqK_ret, blkK_nrm, blkK_exit, blkK_ret, loopK_nrm, loopK_exit, loopK_ret,
    cndF_t, cndF_f, cndF_p, grdF_t, grdF_f, grdF_s, grdF_pt, grdF_pf, stepF, ev_v, ev_k, ev_o, oev_al, oev_int, oev_sl, oev_str, oev_agg, oev_pt, oev_bool, lk_cons, lk_nil, st1_cons, st1_nil, keepE_cons, keepE_nil, D.clean, reduceIte, Nat.reduceEqDiff,
    putF_int, putF_bool, putF_str, putF_sl, putF_agg, putF_tup, putF_pt, putF_clo, putF_err, mvF, moF, tkF, shF, ariF, ciF, catF, scF, ebF, eqF, eqOk, eqPr, enF, notF, ngF, cvF, csF, csbF, cbsF_s, cbsF_o, lenF, lenSF, ixF, iaF, PX.slot, iaAF, atV, atO, faF, ldF, ldC_ints, ldC_ints', ldC_aggc, ldC_cons, D.mem, stF, stG_ints, stG_box, bxF, mkSF, appF_oo, appF_os, ints_app, ints_snoc, ints_length, ints_nil, cut_ints, slcF_o, slcF_s, slc2_eq, slSF_eq, slS2_eq, boundF, Option.map_some, Option.map_none, mkfF_eq, capt_eq, captD_box, captD_pt, extF_eq, extO_eq, List.getElem?_cons_zero, List.getElem?_cons_succ, pickF_t, pickF_f, pickF_p, fldF, mmF2,
    lend_eq, List.map_cons, List.map_nil, D.plain, D.isPure, optAll, dulls_nil, dulls_v, dulls_k, dulls_o, D.dull, callVF, bldF_eq, bldSF_eq, fillD_nil, fillD_cons, splice, D.cells, D.one, List.length_cons, List.length_nil, List.all_cons, List.all_nil, Bool.and_self, Bool.and_true, Bool.true_and, List.take_succ_cons, List.take_zero, List.drop_succ_cons, List.drop_zero, List.nil_append, List.cons_append, List.append_nil, List.drop_nil, List.take_nil, List.replicate_succ, List.replicate_zero, List.flatten_cons, List.flatten_nil, Nat.reduceAdd, Nat.reduceMul, Nat.reduceSub, Nat.reduceLeDiff, Nat.zero_add, Nat.add_zero, Nat.mul_one, Nat.one_mul, Nat.zero_mul, Nat.zero_le, Int.toNat_natCast, Int.toNat_zero, Int.reduceToNat, Nat.sub_zero, Nat.le_refl,
    sets, List.cons.injEq, inR_i64, inR_u64, inR_u32, inR_i32, inR_u8, dB_True, dB_False, dB_neg, dB_beq_true, dB_beq_false, maxLen_eq, true_and, and_true, Bool.not_true, Bool.not_false, Bool.false_eq_true, Bool.not_eq_true, retQ_nrm, retQ_ret, resD_t, resT, Option.some.injEq, D.sl.injEq, D.int.injEq, D.bool.injEq, and_self, ne_eq, not_false_eq_true, not_true_eq_false, forall_const, D.flat, D.flat0, D.simple, Int.reduceLT, Int.reduceLE, Int.reduceEq, Int.reduceNeg, Int.reduceSub, Int.reduceAdd, Int.reduceMul, Int.ofNat_eq_natCast, imp_self, implies_true, false_implies]
    omega
  · have := hb0 rfl
    subst this
    have : cs = [] := List.eq_nil_of_length_eq_zero hn
    subst this
    simp only [initE, wC_seq, wC_reg, wC_cnd, wC_blk, wC_loop, wC_exit, wC_skip, wC_ret, wC_bad, GB_eq, zap_nil, zap_cons, lgF_g, lgF_b, sgOF_g, sgOF_b, sgPF_g, sgPF_b, Nat.reduceBNe, Nat.reduceLT, wC_rfn, wC_cus, asgK_nrm, bodK_nrm, wE_nil, wE_none, wE_st, wE_some, regK_eq, seqK_nrm, seqK_exit, seqK_ret, blkK_nrm, blkK_exit, blkK_ret, loopK_nrm, loopK_exit, loopK_ret,
    cndF_t, cndF_f, cndF_p, grdF_t, grdF_f, grdF_s, grdF_pt, grdF_pf, stepF, ev_v, ev_k, ev_o, oev_al, oev_int, oev_sl, oev_str, oev_agg, oev_pt, oev_bool, lk_cons, lk_nil, st1_cons, st1_nil, keepE_cons, keepE_nil, D.clean, reduceIte, Nat.reduceEqDiff,
    putF_int, putF_bool, putF_str, putF_sl, putF_agg, putF_tup, putF_pt, putF_clo, putF_err, mvF, moF, tkF, shF, ariF, ciF, catF, scF, ebF, eqF, eqOk, eqPr, enF, notF, ngF, cvF, csF, csbF, cbsF_s, cbsF_o, lenF, lenSF, ixF, iaF, PX.slot, iaAF, atV, atO, faF, ldF, ldC_ints, ldC_ints', ldC_aggc, ldC_cons, D.mem, stF, stG_ints, stG_box, bxF, mkSF, appF_oo, appF_os, ints_app, ints_snoc, ints_length, ints_nil, cut_ints, slcF_o, slcF_s, slc2_eq, slSF_eq, slS2_eq, boundF, Option.map_some, Option.map_none, mkfF_eq, capt_eq, captD_box, captD_pt, extF_eq, extO_eq, List.getElem?_cons_zero, List.getElem?_cons_succ, pickF_t, pickF_f, pickF_p, fldF, mmF2,
    lend_eq, List.map_cons, List.map_nil, D.plain, D.isPure, optAll, dulls_nil, dulls_v, dulls_k, dulls_o, D.dull, callVF, bldF_eq, bldSF_eq, fillD_nil, fillD_cons, splice, D.cells, D.one, List.length_cons, List.length_nil, List.all_cons, List.all_nil, Bool.and_self, Bool.and_true, Bool.true_and, List.take_succ_cons, List.take_zero, List.drop_succ_cons, List.drop_zero, List.nil_append, List.cons_append, List.append_nil, List.drop_nil, List.take_nil, List.replicate_succ, List.replicate_zero, List.flatten_cons, List.flatten_nil, Nat.reduceAdd, Nat.reduceMul, Nat.reduceSub, Nat.reduceLeDiff, Nat.zero_add, Nat.add_zero, Nat.mul_one, Nat.one_mul, Nat.zero_mul, Nat.zero_le, Int.toNat_natCast, Int.toNat_zero, Int.reduceToNat, Nat.sub_zero, Nat.le_refl,
    sets, List.cons.injEq, inR_i64, inR_u64, inR_u32, inR_i32, inR_u8, dB_True, dB_False, dB_neg, dB_beq_true, dB_beq_false, maxLen_eq, true_and, and_true, Bool.not_true, Bool.not_false, Bool.false_eq_true, Bool.not_eq_true, retQ_nrm, retQ_ret, resD_t, resT, Option.some.injEq, D.sl.injEq, D.int.injEq, D.bool.injEq, and_self, ne_eq, not_false_eq_true, not_true_eq_false, forall_const, D.flat, D.flat0, D.simple, Int.reduceLT, Int.reduceLE, Int.reduceEq, Int.reduceNeg, Int.reduceSub, Int.reduceAdd, Int.reduceMul, Int.ofNat_eq_natCast, imp_self, implies_true, false_implies]

theorem Tryz.c50 : Con Tryz.prog Tryz.L 50 [] (.own true 9 6 [.str [65], .str [66], .str [67], .str [68], .str [69], .str [70]]) := by
  refine rule50 Tryz.hL rfl rfl rfl ?_
  simp only [pc50, rs50, initE, wC_seq, wC_reg, wC_cnd, wC_blk, wC_loop, wC_exit, wC_skip, wC_ret, wC_bad, GB_eq, zap_nil, zap_cons, lgF_g, lgF_b, sgOF_g, sgOF_b, sgPF_g, sgPF_b, Nat.reduceBNe, Nat.reduceLT, wC_rfn, wC_cus, asgK_nrm, bodK_nrm, wE_nil, wE_none, wE_st, wE_some, regK_eq, seqK_nrm, seqK_exit, seqK_ret, blkK_nrm, blkK_exit, blkK_ret, loopK_nrm, loopK_exit, loopK_ret,
    cndF_t, cndF_f, cndF_p, grdF_t, grdF_f, grdF_s, grdF_pt, grdF_pf, stepF, ev_v, ev_k, ev_o, oev_al, oev_int, oev_sl, oev_str, oev_agg, oev_pt, oev_bool, lk_cons, lk_nil, st1_cons, st1_nil, keepE_cons, keepE_nil, D.clean, reduceIte, Nat.reduceEqDiff,
    putF_int, putF_bool, putF_str, putF_sl, putF_agg, putF_tup, putF_pt, putF_clo, putF_err, mvF, moF, tkF, shF, ariF, ciF, catF, scF, ebF, eqF, eqOk, eqPr, enF, notF, ngF, cvF, csF, csbF, cbsF_s, cbsF_o, lenF, lenSF, ixF, iaF, PX.slot, iaAF, atV, atO, faF, ldF, ldC_ints, ldC_ints', ldC_aggc, ldC_cons, D.mem, stF, stG_ints, stG_box, bxF, mkSF, appF_oo, appF_os, ints_app, ints_snoc, ints_length, ints_nil, cut_ints, slcF_o, slcF_s, slc2_eq, slSF_eq, slS2_eq, boundF, Option.map_some, Option.map_none, mkfF_eq, capt_eq, captD_box, captD_pt, extF_eq, extO_eq, List.getElem?_cons_zero, List.getElem?_cons_succ, pickF_t, pickF_f, pickF_p, fldF, mmF2,
    lend_eq, List.map_cons, List.map_nil, D.plain, D.isPure, optAll, dulls_nil, dulls_v, dulls_k, dulls_o, D.dull, callVF, bldF_eq, bldSF_eq, fillD_nil, fillD_cons, splice, D.cells, D.one, List.length_cons, List.length_nil, List.all_cons, List.all_nil, Bool.and_self, Bool.and_true, Bool.true_and, List.take_succ_cons, List.take_zero, List.drop_succ_cons, List.drop_zero, List.nil_append, List.cons_append, List.append_nil, List.drop_nil, List.take_nil, List.replicate_succ, List.replicate_zero, List.flatten_cons, List.flatten_nil, Nat.reduceAdd, Nat.reduceMul, Nat.reduceSub, Nat.reduceLeDiff, Nat.zero_add, Nat.add_zero, Nat.mul_one, Nat.one_mul, Nat.zero_mul, Nat.zero_le, Int.toNat_natCast, Int.toNat_zero, Int.reduceToNat, Nat.sub_zero, Nat.le_refl,
    sets, List.cons.injEq, inR_i64, inR_u64, inR_u32, inR_i32, inR_u8, dB_True, dB_False, dB_neg, dB_beq_true, dB_beq_false, maxLen_eq, true_and, and_true, Bool.not_true, Bool.not_false, Bool.false_eq_true, Bool.not_eq_true, retQ_nrm, retQ_ret, resD_t, resT, Option.some.injEq, D.sl.injEq, D.int.injEq, D.bool.injEq, and_self, ne_eq, not_false_eq_true, not_true_eq_false, forall_const, D.flat, D.flat0, D.simple, Int.reduceLT, Int.reduceLE, Int.reduceEq, Int.reduceNeg, Int.reduceSub, Int.reduceAdd, Int.reduceMul, Int.ofNat_eq_natCast, imp_self, implies_true, false_implies]

theorem Tryz.c52 (x : Lay) (u : List UInt8) : Con Tryz.prog Tryz.L 52 ([.agg x.d] ++ [.pt [.str u]]) (.bool (x.u == u)) := by
  refine rule52 Tryz.hL rfl rfl rfl ?_
  simp only [pc52, rs52, Lay.d, initE, wC_seq, wC_reg, wC_cnd, wC_blk, wC_loop, wC_exit, wC_skip, wC_ret, wC_bad, GB_eq, zap_nil, zap_cons, lgF_g, lgF_b, sgOF_g, sgOF_b, sgPF_g, sgPF_b, Nat.reduceBNe, Nat.reduceLT, wC_rfn, wC_cus, asgK_nrm, bodK_nrm, wE_nil, wE_none, wE_st, wE_some, regK_eq, seqK_nrm, seqK_exit, seqK_ret, blkK_nrm, blkK_exit, blkK_ret, loopK_nrm, loopK_exit, loopK_ret,
    cndF_t, cndF_f, cndF_p, grdF_t, grdF_f, grdF_s, grdF_pt, grdF_pf, stepF, ev_v, ev_k, ev_o, oev_al, oev_int, oev_sl, oev_str, oev_agg, oev_pt, oev_bool, lk_cons, lk_nil, st1_cons, st1_nil, keepE_cons, keepE_nil, D.clean, reduceIte, Nat.reduceEqDiff,
    putF_int, putF_bool, putF_str, putF_sl, putF_agg, putF_tup, putF_pt, putF_clo, putF_err, mvF, moF, tkF, shF, ariF, ciF, catF, scF, ebF, eqF, eqOk, eqPr, enF, notF, ngF, cvF, csF, csbF, cbsF_s, cbsF_o, lenF, lenSF, ixF, iaF, PX.slot, iaAF, atV, atO, faF, ldF, ldC_ints, ldC_ints', ldC_aggc, ldC_cons, D.mem, stF, stG_ints, stG_box, bxF, mkSF, appF_oo, appF_os, ints_app, ints_snoc, ints_length, ints_nil, cut_ints, slcF_o, slcF_s, slc2_eq, slSF_eq, slS2_eq, boundF, Option.map_some, Option.map_none, mkfF_eq, capt_eq, captD_box, captD_pt, extF_eq, extO_eq, List.getElem?_cons_zero, List.getElem?_cons_succ, pickF_t, pickF_f, pickF_p, fldF, mmF2,
    lend_eq, List.map_cons, List.map_nil, D.plain, D.isPure, optAll, dulls_nil, dulls_v, dulls_k, dulls_o, D.dull, callVF, bldF_eq, bldSF_eq, fillD_nil, fillD_cons, splice, D.cells, D.one, List.length_cons, List.length_nil, List.all_cons, List.all_nil, Bool.and_self, Bool.and_true, Bool.true_and, List.take_succ_cons, List.take_zero, List.drop_succ_cons, List.drop_zero, List.nil_append, List.cons_append, List.append_nil, List.drop_nil, List.take_nil, List.replicate_succ, List.replicate_zero, List.flatten_cons, List.flatten_nil, Nat.reduceAdd, Nat.reduceMul, Nat.reduceSub, Nat.reduceLeDiff, Nat.zero_add, Nat.add_zero, Nat.mul_one, Nat.one_mul, Nat.zero_mul, Nat.zero_le, Int.toNat_natCast, Int.toNat_zero, Int.reduceToNat, Nat.sub_zero, Nat.le_refl,
    sets, List.cons.injEq, inR_i64, inR_u64, inR_u32, inR_i32, inR_u8, dB_True, dB_False, dB_neg, dB_beq_true, dB_beq_false, maxLen_eq, true_and, and_true, Bool.not_true, Bool.not_false, Bool.false_eq_true, Bool.not_eq_true, retQ_nrm, retQ_ret, resD_t, resT, Option.some.injEq, D.sl.injEq, D.int.injEq, D.bool.injEq, and_self, ne_eq, not_false_eq_true, not_true_eq_false, forall_const, D.flat, D.flat0, D.simple, Int.reduceLT, Int.reduceLE, Int.reduceEq, Int.reduceNeg, Int.reduceSub, Int.reduceAdd, Int.reduceMul, Int.ofNat_eq_natCast, imp_self, implies_true, false_implies]
  rw [Bool.eq_iff_iff, dB_iff]; simp

theorem Tryz.c51 {f : Nat} {caps : List D} (p : Lay → Bool) (l : List Lay) (hl : l.length ≤ 1000) (h : ∀ x ∈ l, Con Tryz.prog Tryz.L f ([.agg x.d] ++ caps) (.bool (p x))) :
    Con Tryz.prog Tryz.L 51 [.sl l.length (lays l), .clo f caps] (.bool (dB (0 ≤ idx p l))) := by
  refine rule51 Tryz.hL rfl rfl rfl ?_
  simp only [pc51, rs51, initE, wC_seq, wC_reg, wC_cnd, wC_blk, wC_loop, wC_exit, wC_skip, wC_ret, wC_bad, GB_eq, zap_nil, zap_cons, lgF_g, lgF_b, sgOF_g, sgOF_b, sgPF_g, sgPF_b, Nat.reduceBNe, Nat.reduceLT, wC_rfn, wC_cus, asgK_nrm, bodK_nrm, wE_nil, wE_none, wE_st, wE_some, regK_eq, seqK_nrm, seqK_exit, seqK_ret, blkK_nrm, blkK_exit, blkK_ret, loopK_nrm, loopK_exit, loopK_ret,
    cndF_t, cndF_f, cndF_p, grdF_t, grdF_f, grdF_s, grdF_pt, grdF_pf, stepF, ev_v, ev_k, ev_o, oev_al, oev_int, oev_sl, oev_str, oev_agg, oev_pt, oev_bool, lk_cons, lk_nil, st1_cons, st1_nil, keepE_cons, keepE_nil, D.clean, reduceIte, Nat.reduceEqDiff,
    putF_int, putF_bool, putF_str, putF_sl, putF_agg, putF_tup, putF_pt, putF_clo, putF_err, mvF, moF, tkF, shF, ariF, ciF, catF, scF, ebF, eqF, eqOk, eqPr, enF, notF, ngF, cvF, csF, csbF, cbsF_s, cbsF_o, lenF, lenSF, ixF, iaF, PX.slot, iaAF, atV, atO, faF, ldF, ldC_ints, ldC_ints', ldC_aggc, ldC_cons, D.mem, stF, stG_ints, stG_box, bxF, mkSF, appF_oo, appF_os, ints_app, ints_snoc, ints_length, ints_nil, cut_ints, slcF_o, slcF_s, slc2_eq, slSF_eq, slS2_eq, boundF, Option.map_some, Option.map_none, mkfF_eq, capt_eq, captD_box, captD_pt, extF_eq, extO_eq, List.getElem?_cons_zero, List.getElem?_cons_succ, pickF_t, pickF_f, pickF_p, fldF, mmF2,
    lend_eq, List.map_cons, List.map_nil, D.plain, D.isPure, optAll, dulls_nil, dulls_v, dulls_k, dulls_o, D.dull, callVF, bldF_eq, bldSF_eq, fillD_nil, fillD_cons, splice, D.cells, D.one, List.length_cons, List.length_nil, List.all_cons, List.all_nil, Bool.and_self, Bool.and_true, Bool.true_and, List.take_succ_cons, List.take_zero, List.drop_succ_cons, List.drop_zero, List.nil_append, List.cons_append, List.append_nil, List.drop_nil, List.take_nil, List.replicate_succ, List.replicate_zero, List.flatten_cons, List.flatten_nil, Nat.reduceAdd, Nat.reduceMul, Nat.reduceSub, Nat.reduceLeDiff, Nat.zero_add, Nat.add_zero, Nat.mul_one, Nat.one_mul, Nat.zero_mul, Nat.zero_le, Int.toNat_natCast, Int.toNat_zero, Int.reduceToNat, Nat.sub_zero, Nat.le_refl,
    sets, List.cons.injEq, inR_i64, inR_u64, inR_u32, inR_i32, inR_u8, dB_True, dB_False, dB_neg, dB_beq_true, dB_beq_false, maxLen_eq, true_and, and_true, Bool.not_true, Bool.not_false, Bool.false_eq_true, Bool.not_eq_true, retQ_nrm, retQ_ret, resD_t, resT, Option.some.injEq, D.sl.injEq, D.int.injEq, D.bool.injEq, and_self, ne_eq, not_false_eq_true, not_true_eq_false, forall_const, D.flat, D.flat0, D.simple, Int.reduceLT, Int.reduceLE, Int.reduceEq, Int.reduceNeg, Int.reduceSub, Int.reduceAdd, Int.reduceMul, Int.ofNat_eq_natCast, imp_self, implies_true, false_implies]
  refine callF_of (Tryz.c58 p l hl h) ?_
  simp only [initE, wC_seq, wC_reg, wC_cnd, wC_blk, wC_loop, wC_exit, wC_skip, wC_ret, wC_bad, GB_eq, zap_nil, zap_cons, lgF_g, lgF_b, sgOF_g, sgOF_b, sgPF_g, sgPF_b, Nat.reduceBNe, Nat.reduceLT, wC_rfn, wC_cus, asgK_nrm, bodK_nrm, wE_nil, wE_none, wE_st, wE_some, regK_eq, seqK_nrm, seqK_exit, seqK_ret, blkK_nrm, blkK_exit, blkK_ret, loopK_nrm, loopK_exit, loopK_ret,
    cndF_t, cndF_f, cndF_p, grdF_t, grdF_f, grdF_s, grdF_pt, grdF_pf, stepF, ev_v, ev_k, ev_o, oev_al, oev_int, oev_sl, oev_str, oev_agg, oev_pt, oev_bool, lk_cons, lk_nil, st1_cons, st1_nil, keepE_cons, keepE_nil, D.clean, reduceIte, Nat.reduceEqDiff,
    putF_int, putF_bool, putF_str, putF_sl, putF_agg, putF_tup, putF_pt, putF_clo, putF_err, mvF, moF, tkF, shF, ariF, ciF, catF, scF, ebF, eqF, eqOk, eqPr, enF, notF, ngF, cvF, csF, csbF, cbsF_s, cbsF_o, lenF, lenSF, ixF, iaF, PX.slot, iaAF, atV, atO, faF, ldF, ldC_ints, ldC_ints', ldC_aggc, ldC_cons, D.mem, stF, stG_ints, stG_box, bxF, mkSF, appF_oo, appF_os, ints_app, ints_snoc, ints_length, ints_nil, cut_ints, slcF_o, slcF_s, slc2_eq, slSF_eq, slS2_eq, boundF, Option.map_some, Option.map_none, mkfF_eq, capt_eq, captD_box, captD_pt, extF_eq, extO_eq, List.getElem?_cons_zero, List.getElem?_cons_succ, pickF_t, pickF_f, pickF_p, fldF, mmF2,
    lend_eq, List.map_cons, List.map_nil, D.plain, D.isPure, optAll, dulls_nil, dulls_v, dulls_k, dulls_o, D.dull, callVF, bldF_eq, bldSF_eq, fillD_nil, fillD_cons, splice, D.cells, D.one, List.length_cons, List.length_nil, List.all_cons, List.all_nil, Bool.and_self, Bool.and_true, Bool.true_and, List.take_succ_cons, List.take_zero, List.drop_succ_cons, List.drop_zero, List.nil_append, List.cons_append, List.append_nil, List.drop_nil, List.take_nil, List.replicate_succ, List.replicate_zero, List.flatten_cons, List.flatten_nil, Nat.reduceAdd, Nat.reduceMul, Nat.reduceSub, Nat.reduceLeDiff, Nat.zero_add, Nat.add_zero, Nat.mul_one, Nat.one_mul, Nat.zero_mul, Nat.zero_le, Int.toNat_natCast, Int.toNat_zero, Int.reduceToNat, Nat.sub_zero, Nat.le_refl,
    sets, List.cons.injEq, inR_i64, inR_u64, inR_u32, inR_i32, inR_u8, dB_True, dB_False, dB_neg, dB_beq_true, dB_beq_false, maxLen_eq, true_and, and_true, Bool.not_true, Bool.not_false, Bool.false_eq_true, Bool.not_eq_true, retQ_nrm, retQ_ret, resD_t, resT, Option.some.injEq, D.sl.injEq, D.int.injEq, D.bool.injEq, and_self, ne_eq, not_false_eq_true, not_true_eq_false, forall_const, D.flat, D.flat0, D.simple, Int.reduceLT, Int.reduceLE, Int.reduceEq, Int.reduceNeg, Int.reduceSub, Int.reduceAdd, Int.reduceMul, Int.ofNat_eq_natCast, imp_self, implies_true, false_implies]

/-! ### Make -/
/-- a plan: its list, its eight bytes -/
structure Pl where
  us : List Int
  a0 : Int
  b0 : Int
  a1 : Int
  b1 : Int
  a2 : Int
  b2 : Int
  a3 : Int
  b3 : Int

def Pl.d (p : Pl) : D := .agg [.sl p.us.length (ints .u8 p.us), .int .u8 p.a0, .int .u8 p.b0, .int .u8 p.a1, .int .u8 p.b1, .int .u8 p.a2, .int .u8 p.b2, .int .u8 p.a3, .int .u8 p.b3]
def isByte (x : Int) : Prop := 0 ≤ x ∧ x < 256
structure Pl.ok (p : Pl) : Prop where
  len : p.us.length ≤ 140737488355327
  us : ∀ x ∈ p.us, isByte x
  a0 : isByte p.a0
  b0 : isByte p.b0
  a1 : isByte p.a1
  b1 : isByte p.b1
  a2 : isByte p.a2
  b2 : isByte p.b2
  a3 : isByte p.a3
  b3 : isByte p.b3

def Pl.at (p : Pl) (k : Nat) : Int × Int := match k with
  | 0 => (p.a0, p.b0)
  | 1 => (p.a1, p.b1)
  | 2 => (p.a2, p.b2)
  | 3 => (p.a3, p.b3)
  | 4 => (p.a0, p.b0)
  | _ => (p.a1, p.b1)

/-- one unit of a plan -/
def Pl.lay (p : Pl) (k : Nat) : Lay := layOf k ((p.at k).1 % 4).toNat ((p.at k).2 % 8).toNat
def mkStep (p : Pl) (out : List Lay) (x : Int) : List Lay :=
  if out.length = 4 ∨ 0 ≤ idx (fun y => y.u == [UInt8.ofNat (65 + (x % 6).toNat)]) out then out else out ++ [p.lay (x % 6).toNat]
def Pl.make (p : Pl) : List Lay := (p.us ++ [0]).foldl (mkStep p) []

theorem foldl_len (p : Pl) : ∀ (l : List Int) (out : List Lay), out.length ≤ 4 → (l.foldl (mkStep p) out).length ≤ 4
  | [], out, h => h
  | x :: l, out, h => by
    refine foldl_len p l _ ?_
    unfold mkStep
    split
    · exact h
    · rename_i hn; simp; omega

theorem tmod_nn {x y : Int} (hx : 0 ≤ x) : x.tmod y = x % y := Int.tmod_eq_emod_of_nonneg hx

theorem lays_snoc {out : List Lay} {x : Lay} : lays (out ++ [x]) = lays out ++ x.d := rows_snoc
theorem snocL (out : List Lay) (x : Lay) {u a b : List UInt8} (hx : x = ⟨u, a, b⟩) : D.own true 39 (out.length + 1) (lays out ++ [.str u, .str a, .str b]) = .own true 39 (out ++ [x]).length (lays (out ++ [x])) := by
  rw [List.length_append, lays_snoc, hx]; rfl
theorem layOf7 (k a b : Nat) (h : ¬¬((b : Int) = 7)) : layOf k a b = ⟨[UInt8.ofNat (65 + k)], half a, []⟩ := by unfold layOf; rw [if_pos (by omega)]
theorem layOf8 (k a b : Nat) (h : ¬((b : Int) = 7)) : layOf k a b = ⟨[UInt8.ofNat (65 + k)], half a, half (a + b)⟩ := by unfold layOf; rw [if_neg (by omega)]
theorem l8 (y : Int) : (y % 8).toNat < 8 := by omega
theorem l84 (y : Int) : (y % 4).toNat < 4 := by omega
theorem l4 (y : Int) : (y % 4).toNat < 8 := by omega
theorem r4 (y : Int) : -9223372036854775808 ≤ ((y % 4).toNat : Int) ∧ ((y % 4).toNat : Int) ≤ 9223372036854775807 := by omega
theorem r8 (y : Int) : -9223372036854775808 ≤ ((y % 8).toNat : Int) ∧ ((y % 8).toNat : Int) ≤ 9223372036854775807 := by omega
set_option maxHeartbeats 2000000 in
theorem Tryz.c12 (p : Pl) (hp : p.ok) : Con Tryz.prog Tryz.L 12 [p.d] (.own true 39 p.make.length (lays p.make)) := by
  have hlen := hp.len
  refine rule12 Tryz.hL rfl rfl rfl ?_
  simp only [pc12, rs12, Pl.d, initE, wC_seq, wC_reg, wC_cnd, wC_blk, wC_loop, wC_exit, wC_skip, wC_ret, wC_bad, GB_eq, zap_nil, zap_cons, lgF_g, lgF_b, sgOF_g, sgOF_b, sgPF_g, sgPF_b, Nat.reduceBNe, Nat.reduceLT, wC_rfn, wC_cus, asgK_nrm, bodK_nrm, wE_nil, wE_none, wE_st, wE_some, regK_eq, seqK_nrm, seqK_exit, seqK_ret, blkK_nrm, blkK_exit, blkK_ret, loopK_nrm, loopK_exit, loopK_ret,
    cndF_t, cndF_f, cndF_p, grdF_t, grdF_f, grdF_s, grdF_pt, grdF_pf, stepF, ev_v, ev_k, ev_o, oev_al, oev_int, oev_sl, oev_str, oev_agg, oev_pt, oev_bool, lk_cons, lk_nil, st1_cons, st1_nil, keepE_cons, keepE_nil, D.clean, reduceIte, Nat.reduceEqDiff,
    putF_int, putF_bool, putF_str, putF_sl, putF_agg, putF_tup, putF_pt, putF_clo, putF_err, mvF, moF, tkF, shF, ariF, ciF, catF, scF, ebF, eqF, eqOk, eqPr, enF, notF, ngF, cvF, csF, csbF, cbsF_s, cbsF_o, lenF, lenSF, ixF, iaF, PX.slot, iaAF, atV, atO, faF, ldF, ldC_ints, ldC_ints', ldC_aggc, ldC_cons, D.mem, stF, stG_ints, stG_box, bxF, mkSF, appF_oo, appF_os, ints_app, ints_snoc, ints_length, ints_nil, cut_ints, slcF_o, slcF_s, slc2_eq, slSF_eq, slS2_eq, boundF, Option.map_some, Option.map_none, mkfF_eq, capt_eq, captD_box, captD_pt, extF_eq, extO_eq, List.getElem?_cons_zero, List.getElem?_cons_succ, pickF_t, pickF_f, pickF_p, fldF, mmF2,
    lend_eq, List.map_cons, List.map_nil, D.plain, D.isPure, optAll, dulls_nil, dulls_v, dulls_k, dulls_o, D.dull, callVF, bldF_eq, bldSF_eq, fillD_nil, fillD_cons, splice, D.cells, D.one, List.length_cons, List.length_nil, List.all_cons, List.all_nil, Bool.and_self, Bool.and_true, Bool.true_and, List.take_succ_cons, List.take_zero, List.drop_succ_cons, List.drop_zero, List.nil_append, List.cons_append, List.append_nil, List.drop_nil, List.take_nil, List.replicate_succ, List.replicate_zero, List.flatten_cons, List.flatten_nil, Nat.reduceAdd, Nat.reduceMul, Nat.reduceSub, Nat.reduceLeDiff, Nat.zero_add, Nat.add_zero, Nat.mul_one, Nat.one_mul, Nat.zero_mul, Nat.zero_le, Int.toNat_natCast, Int.toNat_zero, Int.reduceToNat, Nat.sub_zero, Nat.le_refl,
    sets, List.cons.injEq, inR_i64, inR_u64, inR_u32, inR_i32, inR_u8, dB_True, dB_False, dB_neg, dB_beq_true, dB_beq_false, maxLen_eq, true_and, and_true, Bool.not_true, Bool.not_false, Bool.false_eq_true, Bool.not_eq_true, retQ_nrm, retQ_ret, resD_t, resT, Option.some.injEq, D.sl.injEq, D.int.injEq, D.bool.injEq, and_self, ne_eq, not_false_eq_true, not_true_eq_false, forall_const, D.flat, D.flat0, D.simple, Int.reduceLT, Int.reduceLE, Int.reduceEq, Int.reduceNeg, Int.reduceSub, Int.reduceAdd, Int.reduceMul, Int.ofNat_eq_natCast, imp_self, implies_true, false_implies]
  refine callF_of (Tryz.c49 _ _ ints_length (by omega)) ?_
  simp only [initE, wC_seq, wC_reg, wC_cnd, wC_blk, wC_loop, wC_exit, wC_skip, wC_ret, wC_bad, GB_eq, zap_nil, zap_cons, lgF_g, lgF_b, sgOF_g, sgOF_b, sgPF_g, sgPF_b, Nat.reduceBNe, Nat.reduceLT, wC_rfn, wC_cus, asgK_nrm, bodK_nrm, wE_nil, wE_none, wE_st, wE_some, regK_eq, seqK_nrm, seqK_exit, seqK_ret, blkK_nrm, blkK_exit, blkK_ret, loopK_nrm, loopK_exit, loopK_ret,
    cndF_t, cndF_f, cndF_p, grdF_t, grdF_f, grdF_s, grdF_pt, grdF_pf, stepF, ev_v, ev_k, ev_o, oev_al, oev_int, oev_sl, oev_str, oev_agg, oev_pt, oev_bool, lk_cons, lk_nil, st1_cons, st1_nil, keepE_cons, keepE_nil, D.clean, reduceIte, Nat.reduceEqDiff,
    putF_int, putF_bool, putF_str, putF_sl, putF_agg, putF_tup, putF_pt, putF_clo, putF_err, mvF, moF, tkF, shF, ariF, ciF, catF, scF, ebF, eqF, eqOk, eqPr, enF, notF, ngF, cvF, csF, csbF, cbsF_s, cbsF_o, lenF, lenSF, ixF, iaF, PX.slot, iaAF, atV, atO, faF, ldF, ldC_ints, ldC_ints', ldC_aggc, ldC_cons, D.mem, stF, stG_ints, stG_box, bxF, mkSF, appF_oo, appF_os, ints_app, ints_snoc, ints_length, ints_nil, cut_ints, slcF_o, slcF_s, slc2_eq, slSF_eq, slS2_eq, boundF, Option.map_some, Option.map_none, mkfF_eq, capt_eq, captD_box, captD_pt, extF_eq, extO_eq, List.getElem?_cons_zero, List.getElem?_cons_succ, pickF_t, pickF_f, pickF_p, fldF, mmF2,
    lend_eq, List.map_cons, List.map_nil, D.plain, D.isPure, optAll, dulls_nil, dulls_v, dulls_k, dulls_o, D.dull, callVF, bldF_eq, bldSF_eq, fillD_nil, fillD_cons, splice, D.cells, D.one, List.length_cons, List.length_nil, List.all_cons, List.all_nil, Bool.and_self, Bool.and_true, Bool.true_and, List.take_succ_cons, List.take_zero, List.drop_succ_cons, List.drop_zero, List.nil_append, List.cons_append, List.append_nil, List.drop_nil, List.take_nil, List.replicate_succ, List.replicate_zero, List.flatten_cons, List.flatten_nil, Nat.reduceAdd, Nat.reduceMul, Nat.reduceSub, Nat.reduceLeDiff, Nat.zero_add, Nat.add_zero, Nat.mul_one, Nat.one_mul, Nat.zero_mul, Nat.zero_le, Int.toNat_natCast, Int.toNat_zero, Int.reduceToNat, Nat.sub_zero, Nat.le_refl,
    sets, List.cons.injEq, inR_i64, inR_u64, inR_u32, inR_i32, inR_u8, dB_True, dB_False, dB_neg, dB_beq_true, dB_beq_false, maxLen_eq, true_and, and_true, Bool.not_true, Bool.not_false, Bool.false_eq_true, Bool.not_eq_true, retQ_nrm, retQ_ret, resD_t, resT, Option.some.injEq, D.sl.injEq, D.int.injEq, D.bool.injEq, and_self, ne_eq, not_false_eq_true, not_true_eq_false, forall_const, D.flat, D.flat0, D.simple, Int.reduceLT, Int.reduceLE, Int.reduceEq, Int.reduceNeg, Int.reduceSub, Int.reduceAdd, Int.reduceMul, Int.ofNat_eq_natCast, imp_self, implies_true, false_implies]
  refine ⟨by omega, by omega, ?_⟩
  refine loopF_of (fun E => ∃ (k : Nat) (out : List Lay), k ≤ p.us.length + 1 ∧ out.length ≤ 4 ∧ p.make = ((p.us ++ [0]).drop k).foldl (mkStep p) out ∧
      E = [(1, .box true [.sl p.us.length (ints .u8 p.us), .int .u8 p.a0, .int .u8 p.b0, .int .u8 p.a1, .int .u8 p.b1, .int .u8 p.a2, .int .u8 p.b2, .int .u8 p.a3, .int .u8 p.b3]),
        (3, .own true 39 out.length (lays out)), (13, .own true 5 (p.us.length + 1) (ints .u8 (p.us ++ [0]))), (14, .int .i64 (p.us.length + 1 : Nat)), (15, .int .i64 k)])
    (fun E => match lk E 15 with | .int _ i => p.us.length + 1 - i.toNat | _ => 0) ⟨0, [], Nat.zero_le _, Nat.zero_le _, rfl, rfl⟩ ?_
  rintro _ ⟨k, out, hk, hout, hmk, rfl⟩
  simp only [initE, wC_seq, wC_reg, wC_cnd, wC_blk, wC_loop, wC_exit, wC_skip, wC_ret, wC_bad, GB_eq, zap_nil, zap_cons, lgF_g, lgF_b, sgOF_g, sgOF_b, sgPF_g, sgPF_b, Nat.reduceBNe, Nat.reduceLT, wC_rfn, wC_cus, asgK_nrm, bodK_nrm, wE_nil, wE_none, wE_st, wE_some, regK_eq, seqK_nrm, seqK_exit, seqK_ret, blkK_nrm, blkK_exit, blkK_ret, loopK_nrm, loopK_exit, loopK_ret,
    cndF_t, cndF_f, cndF_p, grdF_t, grdF_f, grdF_s, grdF_pt, grdF_pf, stepF, ev_v, ev_k, ev_o, oev_al, oev_int, oev_sl, oev_str, oev_agg, oev_pt, oev_bool, lk_cons, lk_nil, st1_cons, st1_nil, keepE_cons, keepE_nil, D.clean, reduceIte, Nat.reduceEqDiff,
    putF_int, putF_bool, putF_str, putF_sl, putF_agg, putF_tup, putF_pt, putF_clo, putF_err, mvF, moF, tkF, shF, ariF, ciF, catF, scF, ebF, eqF, eqOk, eqPr, enF, notF, ngF, cvF, csF, csbF, cbsF_s, cbsF_o, lenF, lenSF, ixF, iaF, PX.slot, iaAF, atV, atO, faF, ldF, ldC_ints, ldC_ints', ldC_aggc, ldC_cons, D.mem, stF, stG_ints, stG_box, bxF, mkSF, appF_oo, appF_os, ints_app, ints_snoc, ints_length, ints_nil, cut_ints, slcF_o, slcF_s, slc2_eq, slSF_eq, slS2_eq, boundF, Option.map_some, Option.map_none, mkfF_eq, capt_eq, captD_box, captD_pt, extF_eq, extO_eq, List.getElem?_cons_zero, List.getElem?_cons_succ, pickF_t, pickF_f, pickF_p, fldF, mmF2,
    lend_eq, List.map_cons, List.map_nil, D.plain, D.isPure, optAll, dulls_nil, dulls_v, dulls_k, dulls_o, D.dull, callVF, bldF_eq, bldSF_eq, fillD_nil, fillD_cons, splice, D.cells, D.one, List.length_cons, List.length_nil, List.all_cons, List.all_nil, Bool.and_self, Bool.and_true, Bool.true_and, List.take_succ_cons, List.take_zero, List.drop_succ_cons, List.drop_zero, List.nil_append, List.cons_append, List.append_nil, List.drop_nil, List.take_nil, List.replicate_succ, List.replicate_zero, List.flatten_cons, List.flatten_nil, Nat.reduceAdd, Nat.reduceMul, Nat.reduceSub, Nat.reduceLeDiff, Nat.zero_add, Nat.add_zero, Nat.mul_one, Nat.one_mul, Nat.zero_mul, Nat.zero_le, Int.toNat_natCast, Int.toNat_zero, Int.reduceToNat, Nat.sub_zero, Nat.le_refl,
    sets, List.cons.injEq, inR_i64, inR_u64, inR_u32, inR_i32, inR_u8, dB_True, dB_False, dB_neg, dB_beq_true, dB_beq_false, maxLen_eq, true_and, and_true, Bool.not_true, Bool.not_false, Bool.false_eq_true, Bool.not_eq_true, retQ_nrm, retQ_ret, resD_t, resT, Option.some.injEq, D.sl.injEq, D.int.injEq, D.bool.injEq, and_self, ne_eq, not_false_eq_true, not_true_eq_false, forall_const, D.flat, D.flat0, D.simple, Int.reduceLT, Int.reduceLE, Int.reduceEq, Int.reduceNeg, Int.reduceSub, Int.reduceAdd, Int.reduceMul, Int.ofNat_eq_natCast, imp_self, implies_true, false_implies]
  refine ⟨fun h1 => ?_, fun h1 => ?_⟩
  · have hx : (p.us ++ [0])[k]? = some ((p.us ++ [0])[k]'(by simp; omega)) := List.getElem?_eq_getElem _
    have hxb : isByte ((p.us ++ [0])[k]'(by simp; omega)) := by
      have hm := List.mem_of_getElem? hx
      rw [List.mem_append] at hm
      rcases hm with hm | hm
      · exact hp.us _ hm
      · rw [List.mem_singleton.1 hm]; exact ⟨by omega, by omega⟩
    have hg : (p.us ++ [0]).getD k 0 = (p.us ++ [0])[k]'(by simp; omega) := by rw [List.getD_eq_getElem?_getD, hx]; rfl
    rw [hg]
    generalize (p.us ++ [0])[k]'(by simp; omega) = x at hx hxb
    rw [drop_cons hx, List.foldl_cons] at hmk
    refine ⟨⟨by omega, by simp [ints_length]; omega⟩, by simp; omega, ?_⟩
    refine callF_of Tryz.c50 ?_
    simp only [initE, wC_seq, wC_reg, wC_cnd, wC_blk, wC_loop, wC_exit, wC_skip, wC_ret, wC_bad, GB_eq, zap_nil, zap_cons, lgF_g, lgF_b, sgOF_g, sgOF_b, sgPF_g, sgPF_b, Nat.reduceBNe, Nat.reduceLT, wC_rfn, wC_cus, asgK_nrm, bodK_nrm, wE_nil, wE_none, wE_st, wE_some, regK_eq, seqK_nrm, seqK_exit, seqK_ret, blkK_nrm, blkK_exit, blkK_ret, loopK_nrm, loopK_exit, loopK_ret,
    cndF_t, cndF_f, cndF_p, grdF_t, grdF_f, grdF_s, grdF_pt, grdF_pf, stepF, ev_v, ev_k, ev_o, oev_al, oev_int, oev_sl, oev_str, oev_agg, oev_pt, oev_bool, lk_cons, lk_nil, st1_cons, st1_nil, keepE_cons, keepE_nil, D.clean, reduceIte, Nat.reduceEqDiff,
    putF_int, putF_bool, putF_str, putF_sl, putF_agg, putF_tup, putF_pt, putF_clo, putF_err, mvF, moF, tkF, shF, ariF, ciF, catF, scF, ebF, eqF, eqOk, eqPr, enF, notF, ngF, cvF, csF, csbF, cbsF_s, cbsF_o, lenF, lenSF, ixF, iaF, PX.slot, iaAF, atV, atO, faF, ldF, ldC_ints, ldC_ints', ldC_aggc, ldC_cons, D.mem, stF, stG_ints, stG_box, bxF, mkSF, appF_oo, appF_os, ints_app, ints_snoc, ints_length, ints_nil, cut_ints, slcF_o, slcF_s, slc2_eq, slSF_eq, slS2_eq, boundF, Option.map_some, Option.map_none, mkfF_eq, capt_eq, captD_box, captD_pt, extF_eq, extO_eq, List.getElem?_cons_zero, List.getElem?_cons_succ, pickF_t, pickF_f, pickF_p, fldF, mmF2,
    lend_eq, List.map_cons, List.map_nil, D.plain, D.isPure, optAll, dulls_nil, dulls_v, dulls_k, dulls_o, D.dull, callVF, bldF_eq, bldSF_eq, fillD_nil, fillD_cons, splice, D.cells, D.one, List.length_cons, List.length_nil, List.all_cons, List.all_nil, Bool.and_self, Bool.and_true, Bool.true_and, List.take_succ_cons, List.take_zero, List.drop_succ_cons, List.drop_zero, List.nil_append, List.cons_append, List.append_nil, List.drop_nil, List.take_nil, List.replicate_succ, List.replicate_zero, List.flatten_cons, List.flatten_nil, Nat.reduceAdd, Nat.reduceMul, Nat.reduceSub, Nat.reduceLeDiff, Nat.zero_add, Nat.add_zero, Nat.mul_one, Nat.one_mul, Nat.zero_mul, Nat.zero_le, Int.toNat_natCast, Int.toNat_zero, Int.reduceToNat, Nat.sub_zero, Nat.le_refl,
    sets, List.cons.injEq, inR_i64, inR_u64, inR_u32, inR_i32, inR_u8, dB_True, dB_False, dB_neg, dB_beq_true, dB_beq_false, maxLen_eq, true_and, and_true, Bool.not_true, Bool.not_false, Bool.false_eq_true, Bool.not_eq_true, retQ_nrm, retQ_ret, resD_t, resT, Option.some.injEq, D.sl.injEq, D.int.injEq, D.bool.injEq, and_self, ne_eq, not_false_eq_true, not_true_eq_false, forall_const, D.flat, D.flat0, D.simple, Int.reduceLT, Int.reduceLE, Int.reduceEq, Int.reduceNeg, Int.reduceSub, Int.reduceAdd, Int.reduceMul, Int.ofNat_eq_natCast, imp_self, implies_true, false_implies]
    have hx0 := hxb.1
    have hc : x % 6 = 0 ∨ x % 6 = 1 ∨ x % 6 = 2 ∨ x % 6 = 3 ∨ x % 6 = 4 ∨ x % 6 = 5 := by omega
    have t6 : x.tmod 6 = x % 6 := tmod_nn hx0
    have tm : ∀ y, isByte y → y.tmod 4 = ((y % 4).toNat : Int) ∧ y.tmod 8 = ((y % 8).toNat : Int) := fun y hy => by
      rw [tmod_nn hy.1, tmod_nn hy.1]; omega
    clear hg
    have hstep : mkStep p out x = if out.length = 4 ∨ 0 ≤ idx (fun y : Lay => y.u == [UInt8.ofNat (65 + (x % 6).toNat)]) out then out else out ++ [p.lay (x % 6).toNat] := rfl
    rcases hc with hc | hc | hc | hc | hc | hc
    all_goals
      rw [hc] at t6 hstep
      simp only [Int.reduceToNat, Nat.reduceAdd, UInt8.reduceOfNat] at hstep
      simp only [t6, initE, wC_seq, wC_reg, wC_cnd, wC_blk, wC_loop, wC_exit, wC_skip, wC_ret, wC_bad, GB_eq, zap_nil, zap_cons, lgF_g, lgF_b, sgOF_g, sgOF_b, sgPF_g, sgPF_b, Nat.reduceBNe, Nat.reduceLT, wC_rfn, wC_cus, asgK_nrm, bodK_nrm, wE_nil, wE_none, wE_st, wE_some, regK_eq, seqK_nrm, seqK_exit, seqK_ret, blkK_nrm, blkK_exit, blkK_ret, loopK_nrm, loopK_exit, loopK_ret,
    cndF_t, cndF_f, cndF_p, grdF_t, grdF_f, grdF_s, grdF_pt, grdF_pf, stepF, ev_v, ev_k, ev_o, oev_al, oev_int, oev_sl, oev_str, oev_agg, oev_pt, oev_bool, lk_cons, lk_nil, st1_cons, st1_nil, keepE_cons, keepE_nil, D.clean, reduceIte, Nat.reduceEqDiff,
    putF_int, putF_bool, putF_str, putF_sl, putF_agg, putF_tup, putF_pt, putF_clo, putF_err, mvF, moF, tkF, shF, ariF, ciF, catF, scF, ebF, eqF, eqOk, eqPr, enF, notF, ngF, cvF, csF, csbF, cbsF_s, cbsF_o, lenF, lenSF, ixF, iaF, PX.slot, iaAF, atV, atO, faF, ldF, ldC_ints, ldC_ints', ldC_aggc, ldC_cons, D.mem, stF, stG_ints, stG_box, bxF, mkSF, appF_oo, appF_os, ints_app, ints_snoc, ints_length, ints_nil, cut_ints, slcF_o, slcF_s, slc2_eq, slSF_eq, slS2_eq, boundF, Option.map_some, Option.map_none, mkfF_eq, capt_eq, captD_box, captD_pt, extF_eq, extO_eq, List.getElem?_cons_zero, List.getElem?_cons_succ, pickF_t, pickF_f, pickF_p, fldF, mmF2,
    lend_eq, List.map_cons, List.map_nil, D.plain, D.isPure, optAll, dulls_nil, dulls_v, dulls_k, dulls_o, D.dull, callVF, bldF_eq, bldSF_eq, fillD_nil, fillD_cons, splice, D.cells, D.one, List.length_cons, List.length_nil, List.all_cons, List.all_nil, Bool.and_self, Bool.and_true, Bool.true_and, List.take_succ_cons, List.take_zero, List.drop_succ_cons, List.drop_zero, List.nil_append, List.cons_append, List.append_nil, List.drop_nil, List.take_nil, List.replicate_succ, List.replicate_zero, List.flatten_cons, List.flatten_nil, Nat.reduceAdd, Nat.reduceMul, Nat.reduceSub, Nat.reduceLeDiff, Nat.zero_add, Nat.add_zero, Nat.mul_one, Nat.one_mul, Nat.zero_mul, Nat.zero_le, Int.toNat_natCast, Int.toNat_zero, Int.reduceToNat, Nat.sub_zero, Nat.le_refl,
    sets, List.cons.injEq, inR_i64, inR_u64, inR_u32, inR_i32, inR_u8, dB_True, dB_False, dB_neg, dB_beq_true, dB_beq_false, maxLen_eq, true_and, and_true, Bool.not_true, Bool.not_false, Bool.false_eq_true, Bool.not_eq_true, retQ_nrm, retQ_ret, resD_t, resT, Option.some.injEq, D.sl.injEq, D.int.injEq, D.bool.injEq, and_self, ne_eq, not_false_eq_true, not_true_eq_false, forall_const, D.flat, D.flat0, D.simple, Int.reduceLT, Int.reduceLE, Int.reduceEq, Int.reduceNeg, Int.reduceSub, Int.reduceAdd, Int.reduceMul, Int.ofNat_eq_natCast, imp_self, implies_true, false_implies, Int.reduceTMod]
      refine ⟨by omega, fun h4 => ?_, fun h4 => ?_⟩
      case refine_2 =>
        rw [if_pos (.inl (by omega))] at hstep
        rw [hstep] at hmk
        refine ⟨by omega, ⟨k + 1, out, by omega, hout, hmk, rfl, rfl⟩, by omega⟩
      refine callF_of (Tryz.c51 _ out (by omega) fun y _ => Tryz.c52 y _) ?_
      simp only [t6, initE, wC_seq, wC_reg, wC_cnd, wC_blk, wC_loop, wC_exit, wC_skip, wC_ret, wC_bad, GB_eq, zap_nil, zap_cons, lgF_g, lgF_b, sgOF_g, sgOF_b, sgPF_g, sgPF_b, Nat.reduceBNe, Nat.reduceLT, wC_rfn, wC_cus, asgK_nrm, bodK_nrm, wE_nil, wE_none, wE_st, wE_some, regK_eq, seqK_nrm, seqK_exit, seqK_ret, blkK_nrm, blkK_exit, blkK_ret, loopK_nrm, loopK_exit, loopK_ret,
    cndF_t, cndF_f, cndF_p, grdF_t, grdF_f, grdF_s, grdF_pt, grdF_pf, stepF, ev_v, ev_k, ev_o, oev_al, oev_int, oev_sl, oev_str, oev_agg, oev_pt, oev_bool, lk_cons, lk_nil, st1_cons, st1_nil, keepE_cons, keepE_nil, D.clean, reduceIte, Nat.reduceEqDiff,
    putF_int, putF_bool, putF_str, putF_sl, putF_agg, putF_tup, putF_pt, putF_clo, putF_err, mvF, moF, tkF, shF, ariF, ciF, catF, scF, ebF, eqF, eqOk, eqPr, enF, notF, ngF, cvF, csF, csbF, cbsF_s, cbsF_o, lenF, lenSF, ixF, iaF, PX.slot, iaAF, atV, atO, faF, ldF, ldC_ints, ldC_ints', ldC_aggc, ldC_cons, D.mem, stF, stG_ints, stG_box, bxF, mkSF, appF_oo, appF_os, ints_app, ints_snoc, ints_length, ints_nil, cut_ints, slcF_o, slcF_s, slc2_eq, slSF_eq, slS2_eq, boundF, Option.map_some, Option.map_none, mkfF_eq, capt_eq, captD_box, captD_pt, extF_eq, extO_eq, List.getElem?_cons_zero, List.getElem?_cons_succ, pickF_t, pickF_f, pickF_p, fldF, mmF2,
    lend_eq, List.map_cons, List.map_nil, D.plain, D.isPure, optAll, dulls_nil, dulls_v, dulls_k, dulls_o, D.dull, callVF, bldF_eq, bldSF_eq, fillD_nil, fillD_cons, splice, D.cells, D.one, List.length_cons, List.length_nil, List.all_cons, List.all_nil, Bool.and_self, Bool.and_true, Bool.true_and, List.take_succ_cons, List.take_zero, List.drop_succ_cons, List.drop_zero, List.nil_append, List.cons_append, List.append_nil, List.drop_nil, List.take_nil, List.replicate_succ, List.replicate_zero, List.flatten_cons, List.flatten_nil, Nat.reduceAdd, Nat.reduceMul, Nat.reduceSub, Nat.reduceLeDiff, Nat.zero_add, Nat.add_zero, Nat.mul_one, Nat.one_mul, Nat.zero_mul, Nat.zero_le, Int.toNat_natCast, Int.toNat_zero, Int.reduceToNat, Nat.sub_zero, Nat.le_refl,
    sets, List.cons.injEq, inR_i64, inR_u64, inR_u32, inR_i32, inR_u8, dB_True, dB_False, dB_neg, dB_beq_true, dB_beq_false, maxLen_eq, true_and, and_true, Bool.not_true, Bool.not_false, Bool.false_eq_true, Bool.not_eq_true, retQ_nrm, retQ_ret, resD_t, resT, Option.some.injEq, D.sl.injEq, D.int.injEq, D.bool.injEq, and_self, ne_eq, not_false_eq_true, not_true_eq_false, forall_const, D.flat, D.flat0, D.simple, Int.reduceLT, Int.reduceLE, Int.reduceEq, Int.reduceNeg, Int.reduceSub, Int.reduceAdd, Int.reduceMul, Int.ofNat_eq_natCast, imp_self, implies_true, false_implies, Int.reduceTMod]
      refine ⟨fun hin => ?_, fun hin => ?_⟩
      · rw [if_pos (.inr hin)] at hstep
        rw [hstep] at hmk
        refine ⟨by omega, ⟨k + 1, out, by omega, hout, hmk, rfl, rfl⟩, by omega⟩
      · have hcond : ¬ (out.length = 4 ∨ 0 ≤ idx (fun y : Lay => y.u == _) out) := fun h => h.elim (fun h => h4 (by omega)) hin
        rw [if_neg hcond] at hstep
        rw [hstep] at hmk
        refine ⟨by omega, by omega, by simp only [(tm _ hp.a0).1, (tm _ hp.a1).1, (tm _ hp.a2).1, (tm _ hp.a3).1]; exact r4 _, ?_⟩
        simp only [(tm _ hp.a0).1, (tm _ hp.a1).1, (tm _ hp.a2).1, (tm _ hp.a3).1]
        refine callF_of (Tryz.c16 _ (l4 _)) ?_
        simp only [(tm _ hp.b0).2, (tm _ hp.b1).2, (tm _ hp.b2).2, (tm _ hp.b3).2, initE, wC_seq, wC_reg, wC_cnd, wC_blk, wC_loop, wC_exit, wC_skip, wC_ret, wC_bad, GB_eq, zap_nil, zap_cons, lgF_g, lgF_b, sgOF_g, sgOF_b, sgPF_g, sgPF_b, Nat.reduceBNe, Nat.reduceLT, wC_rfn, wC_cus, asgK_nrm, bodK_nrm, wE_nil, wE_none, wE_st, wE_some, regK_eq, seqK_nrm, seqK_exit, seqK_ret, blkK_nrm, blkK_exit, blkK_ret, loopK_nrm, loopK_exit, loopK_ret,
    cndF_t, cndF_f, cndF_p, grdF_t, grdF_f, grdF_s, grdF_pt, grdF_pf, stepF, ev_v, ev_k, ev_o, oev_al, oev_int, oev_sl, oev_str, oev_agg, oev_pt, oev_bool, lk_cons, lk_nil, st1_cons, st1_nil, keepE_cons, keepE_nil, D.clean, reduceIte, Nat.reduceEqDiff,
    putF_int, putF_bool, putF_str, putF_sl, putF_agg, putF_tup, putF_pt, putF_clo, putF_err, mvF, moF, tkF, shF, ariF, ciF, catF, scF, ebF, eqF, eqOk, eqPr, enF, notF, ngF, cvF, csF, csbF, cbsF_s, cbsF_o, lenF, lenSF, ixF, iaF, PX.slot, iaAF, atV, atO, faF, ldF, ldC_ints, ldC_ints', ldC_aggc, ldC_cons, D.mem, stF, stG_ints, stG_box, bxF, mkSF, appF_oo, appF_os, ints_app, ints_snoc, ints_length, ints_nil, cut_ints, slcF_o, slcF_s, slc2_eq, slSF_eq, slS2_eq, boundF, Option.map_some, Option.map_none, mkfF_eq, capt_eq, captD_box, captD_pt, extF_eq, extO_eq, List.getElem?_cons_zero, List.getElem?_cons_succ, pickF_t, pickF_f, pickF_p, fldF, mmF2,
    lend_eq, List.map_cons, List.map_nil, D.plain, D.isPure, optAll, dulls_nil, dulls_v, dulls_k, dulls_o, D.dull, callVF, bldF_eq, bldSF_eq, fillD_nil, fillD_cons, splice, D.cells, D.one, List.length_cons, List.length_nil, List.all_cons, List.all_nil, Bool.and_self, Bool.and_true, Bool.true_and, List.take_succ_cons, List.take_zero, List.drop_succ_cons, List.drop_zero, List.nil_append, List.cons_append, List.append_nil, List.drop_nil, List.take_nil, List.replicate_succ, List.replicate_zero, List.flatten_cons, List.flatten_nil, Nat.reduceAdd, Nat.reduceMul, Nat.reduceSub, Nat.reduceLeDiff, Nat.zero_add, Nat.add_zero, Nat.mul_one, Nat.one_mul, Nat.zero_mul, Nat.zero_le, Int.toNat_natCast, Int.toNat_zero, Int.reduceToNat, Nat.sub_zero, Nat.le_refl,
    sets, List.cons.injEq, inR_i64, inR_u64, inR_u32, inR_i32, inR_u8, dB_True, dB_False, dB_neg, dB_beq_true, dB_beq_false, maxLen_eq, true_and, and_true, Bool.not_true, Bool.not_false, Bool.false_eq_true, Bool.not_eq_true, retQ_nrm, retQ_ret, resD_t, resT, Option.some.injEq, D.sl.injEq, D.int.injEq, D.bool.injEq, and_self, ne_eq, not_false_eq_true, not_true_eq_false, forall_const, D.flat, D.flat0, D.simple, Int.reduceLT, Int.reduceLE, Int.reduceEq, Int.reduceNeg, Int.reduceSub, Int.reduceAdd, Int.reduceMul, Int.ofNat_eq_natCast, imp_self, implies_true, false_implies]
        have hk1 : k + 1 ≤ p.us.length + 1 := by omega
        have hout1 : (out ++ [p.lay (x % 6).toNat]).length ≤ 4 := by
          rw [List.length_append, List.length_singleton]; omega
        rw [hc] at hout1
        have fit : (out.length + 1) * 48 ≤ 140737488355328 ∧ out.length ≤ 9223372036854775806 ∧ (-9223372036854775808 ≤ (k : Int) + 1 ∧ (k : Int) + 1 ≤ 9223372036854775807) ∧ p.us.length + 1 - ((k : Int) + 1).toNat < p.us.length + 1 - k := by omega
        refine ⟨by decide, fun hb7 => ⟨by decide, r8 _, ?_⟩, fun hb7 => ?_⟩
        · refine callF_of (Tryz.c16 _ (l8 _)) ?_
          simp only [initE, wC_seq, wC_reg, wC_cnd, wC_blk, wC_loop, wC_exit, wC_skip, wC_ret, wC_bad, GB_eq, zap_nil, zap_cons, lgF_g, lgF_b, sgOF_g, sgOF_b, sgPF_g, sgPF_b, Nat.reduceBNe, Nat.reduceLT, wC_rfn, wC_cus, asgK_nrm, bodK_nrm, wE_nil, wE_none, wE_st, wE_some, regK_eq, seqK_nrm, seqK_exit, seqK_ret, blkK_nrm, blkK_exit, blkK_ret, loopK_nrm, loopK_exit, loopK_ret,
    cndF_t, cndF_f, cndF_p, grdF_t, grdF_f, grdF_s, grdF_pt, grdF_pf, stepF, ev_v, ev_k, ev_o, oev_al, oev_int, oev_sl, oev_str, oev_agg, oev_pt, oev_bool, lk_cons, lk_nil, st1_cons, st1_nil, keepE_cons, keepE_nil, D.clean, reduceIte, Nat.reduceEqDiff,
    putF_int, putF_bool, putF_str, putF_sl, putF_agg, putF_tup, putF_pt, putF_clo, putF_err, mvF, moF, tkF, shF, ariF, ciF, catF, scF, ebF, eqF, eqOk, eqPr, enF, notF, ngF, cvF, csF, csbF, cbsF_s, cbsF_o, lenF, lenSF, ixF, iaF, PX.slot, iaAF, atV, atO, faF, ldF, ldC_ints, ldC_ints', ldC_aggc, ldC_cons, D.mem, stF, stG_ints, stG_box, bxF, mkSF, appF_oo, appF_os, ints_app, ints_snoc, ints_length, ints_nil, cut_ints, slcF_o, slcF_s, slc2_eq, slSF_eq, slS2_eq, boundF, Option.map_some, Option.map_none, mkfF_eq, capt_eq, captD_box, captD_pt, extF_eq, extO_eq, List.getElem?_cons_zero, List.getElem?_cons_succ, pickF_t, pickF_f, pickF_p, fldF, mmF2,
    lend_eq, List.map_cons, List.map_nil, D.plain, D.isPure, optAll, dulls_nil, dulls_v, dulls_k, dulls_o, D.dull, callVF, bldF_eq, bldSF_eq, fillD_nil, fillD_cons, splice, D.cells, D.one, List.length_cons, List.length_nil, List.all_cons, List.all_nil, Bool.and_self, Bool.and_true, Bool.true_and, List.take_succ_cons, List.take_zero, List.drop_succ_cons, List.drop_zero, List.nil_append, List.cons_append, List.append_nil, List.drop_nil, List.take_nil, List.replicate_succ, List.replicate_zero, List.flatten_cons, List.flatten_nil, Nat.reduceAdd, Nat.reduceMul, Nat.reduceSub, Nat.reduceLeDiff, Nat.zero_add, Nat.add_zero, Nat.mul_one, Nat.one_mul, Nat.zero_mul, Nat.zero_le, Int.toNat_natCast, Int.toNat_zero, Int.reduceToNat, Nat.sub_zero, Nat.le_refl,
    sets, List.cons.injEq, inR_i64, inR_u64, inR_u32, inR_i32, inR_u8, dB_True, dB_False, dB_neg, dB_beq_true, dB_beq_false, maxLen_eq, true_and, and_true, Bool.not_true, Bool.not_false, Bool.false_eq_true, Bool.not_eq_true, retQ_nrm, retQ_ret, resD_t, resT, Option.some.injEq, D.sl.injEq, D.int.injEq, D.bool.injEq, and_self, ne_eq, not_false_eq_true, not_true_eq_false, forall_const, D.flat, D.flat0, D.simple, Int.reduceLT, Int.reduceLE, Int.reduceEq, Int.reduceNeg, Int.reduceSub, Int.reduceAdd, Int.reduceMul, Int.ofNat_eq_natCast, imp_self, implies_true, false_implies]
          refine callF_of (Tryz.c25 _ _ (l84 _) (by clear fit hout1 hk1 hcond; omega)) ?_
          simp only [initE, wC_seq, wC_reg, wC_cnd, wC_blk, wC_loop, wC_exit, wC_skip, wC_ret, wC_bad, GB_eq, zap_nil, zap_cons, lgF_g, lgF_b, sgOF_g, sgOF_b, sgPF_g, sgPF_b, Nat.reduceBNe, Nat.reduceLT, wC_rfn, wC_cus, asgK_nrm, bodK_nrm, wE_nil, wE_none, wE_st, wE_some, regK_eq, seqK_nrm, seqK_exit, seqK_ret, blkK_nrm, blkK_exit, blkK_ret, loopK_nrm, loopK_exit, loopK_ret,
    cndF_t, cndF_f, cndF_p, grdF_t, grdF_f, grdF_s, grdF_pt, grdF_pf, stepF, ev_v, ev_k, ev_o, oev_al, oev_int, oev_sl, oev_str, oev_agg, oev_pt, oev_bool, lk_cons, lk_nil, st1_cons, st1_nil, keepE_cons, keepE_nil, D.clean, reduceIte, Nat.reduceEqDiff,
    putF_int, putF_bool, putF_str, putF_sl, putF_agg, putF_tup, putF_pt, putF_clo, putF_err, mvF, moF, tkF, shF, ariF, ciF, catF, scF, ebF, eqF, eqOk, eqPr, enF, notF, ngF, cvF, csF, csbF, cbsF_s, cbsF_o, lenF, lenSF, ixF, iaF, PX.slot, iaAF, atV, atO, faF, ldF, ldC_ints, ldC_ints', ldC_aggc, ldC_cons, D.mem, stF, stG_ints, stG_box, bxF, mkSF, appF_oo, appF_os, ints_app, ints_snoc, ints_length, ints_nil, cut_ints, slcF_o, slcF_s, slc2_eq, slSF_eq, slS2_eq, boundF, Option.map_some, Option.map_none, mkfF_eq, capt_eq, captD_box, captD_pt, extF_eq, extO_eq, List.getElem?_cons_zero, List.getElem?_cons_succ, pickF_t, pickF_f, pickF_p, fldF, mmF2,
    lend_eq, List.map_cons, List.map_nil, D.plain, D.isPure, optAll, dulls_nil, dulls_v, dulls_k, dulls_o, D.dull, callVF, bldF_eq, bldSF_eq, fillD_nil, fillD_cons, splice, D.cells, D.one, List.length_cons, List.length_nil, List.all_cons, List.all_nil, Bool.and_self, Bool.and_true, Bool.true_and, List.take_succ_cons, List.take_zero, List.drop_succ_cons, List.drop_zero, List.nil_append, List.cons_append, List.append_nil, List.drop_nil, List.take_nil, List.replicate_succ, List.replicate_zero, List.flatten_cons, List.flatten_nil, Nat.reduceAdd, Nat.reduceMul, Nat.reduceSub, Nat.reduceLeDiff, Nat.zero_add, Nat.add_zero, Nat.mul_one, Nat.one_mul, Nat.zero_mul, Nat.zero_le, Int.toNat_natCast, Int.toNat_zero, Int.reduceToNat, Nat.sub_zero, Nat.le_refl,
    sets, List.cons.injEq, inR_i64, inR_u64, inR_u32, inR_i32, inR_u8, dB_True, dB_False, dB_neg, dB_beq_true, dB_beq_false, maxLen_eq, true_and, and_true, Bool.not_true, Bool.not_false, Bool.false_eq_true, Bool.not_eq_true, retQ_nrm, retQ_ret, resD_t, resT, Option.some.injEq, D.sl.injEq, D.int.injEq, D.bool.injEq, and_self, ne_eq, not_false_eq_true, not_true_eq_false, forall_const, D.flat, D.flat0, D.simple, Int.reduceLT, Int.reduceLE, Int.reduceEq, Int.reduceNeg, Int.reduceSub, Int.reduceAdd, Int.reduceMul, Int.ofNat_eq_natCast, imp_self, implies_true, false_implies]
          exact ⟨fit.1, fit.2.1, fit.2.2.1, ⟨k + 1, _, hk1, hout1, hmk, congrArg (Prod.mk 3) (snocL out (p.lay _) ((layOf8 _ _ _ hb7).trans rfl)), rfl⟩, fit.2.2.2⟩
        · exact ⟨fit.1, fit.2.1, fit.2.2.1, ⟨k + 1, _, hk1, hout1, hmk, congrArg (Prod.mk 3) (snocL out (p.lay _) ((layOf7 _ _ _ hb7).trans rfl)), rfl⟩, fit.2.2.2⟩
  · have hke : k = p.us.length + 1 := by omega
    subst hke
    rw [List.drop_of_length_le (by simp)] at hmk
    rw [hmk]; rfl
end Go.Proofs

/-
  SEAT 22: ColumnTexts. Own work.
-/
namespace Go.Proofs
open Go Go.Pi Go.RowKit

theorem ldC_strs {l : List (List UInt8)} {k t : Nat} {N : EP} {E : Env} : ldC false 1 (List.take 1 (List.drop k (strs l))) t N E = (∃ x, l[k]? = some x ∧ N (st1 E t (.str x))) := by
  unfold ldC
  have e0 : List.drop k (strs l) = strs (l.drop k) := by have := rows_drop sD_len k l; rwa [Nat.mul_one] at this
  rw [e0]
  cases h : l[k]? with
  | none =>
    have hk : l.length ≤ k := by simpa using h
    rw [List.drop_eq_nil_of_le hk]; simp [ofCells, rows]
  | some x => rw [drop_cons h]; simp [ofCells, rows, sD, D.one]

theorem Tryz.c15 (l : List (List UInt8)) (hl : l.length ≤ 1000000) : Con Tryz.prog Tryz.L 15 [.sl l.length (strs l), .sl l.length (strs l)] (.bool true) := by
  refine rule15 Tryz.hL rfl rfl rfl ?_
  simp only [pc15, rs15, initE, wC_seq, wC_reg, wC_cnd, wC_blk, wC_loop, wC_exit, wC_skip, wC_ret, wC_bad, GB_eq, zap_nil, zap_cons, lgF_g, lgF_b, sgOF_g, sgOF_b, sgPF_g, sgPF_b, Nat.reduceBNe, Nat.reduceLT, wC_rfn, wC_cus, asgK_nrm, bodK_nrm, wE_nil, wE_none, wE_st, wE_some, regK_eq, seqK_nrm, seqK_exit, seqK_ret, blkK_nrm, blkK_exit, blkK_ret, loopK_nrm, loopK_exit, loopK_ret,
    cndF_t, cndF_f, cndF_p, grdF_t, grdF_f, grdF_s, grdF_pt, grdF_pf, stepF, ev_v, ev_k, ev_o, oev_al, oev_int, oev_sl, oev_str, oev_agg, oev_pt, oev_bool, lk_cons, lk_nil, st1_cons, st1_nil, keepE_cons, keepE_nil, D.clean, reduceIte, Nat.reduceEqDiff,
    putF_int, putF_bool, putF_str, putF_sl, putF_agg, putF_tup, putF_pt, putF_clo, putF_err, mvF, moF, tkF, shF, ariF, ciF, catF, scF, ebF, eqF, eqOk, eqPr, enF, notF, ngF, cvF, csF, csbF, cbsF_s, cbsF_o, lenF, lenSF, ixF, iaF, PX.slot, iaAF, atV, atO, faF, ldF, ldC_ints, ldC_ints', ldC_aggc, ldC_cons, D.mem, stF, stG_ints, stG_box, bxF, mkSF, appF_oo, appF_os, ints_app, ints_snoc, ints_length, ints_nil, cut_ints, slcF_o, slcF_s, slc2_eq, slSF_eq, slS2_eq, boundF, Option.map_some, Option.map_none, mkfF_eq, capt_eq, captD_box, captD_pt, extF_eq, extO_eq, List.getElem?_cons_zero, List.getElem?_cons_succ, pickF_t, pickF_f, pickF_p, fldF, mmF2,
    lend_eq, List.map_cons, List.map_nil, D.plain, D.isPure, optAll, dulls_nil, dulls_v, dulls_k, dulls_o, D.dull, callVF, bldF_eq, bldSF_eq, fillD_nil, fillD_cons, splice, D.cells, D.one, List.length_cons, List.length_nil, List.all_cons, List.all_nil, Bool.and_self, Bool.and_true, Bool.true_and, List.take_succ_cons, List.take_zero, List.drop_succ_cons, List.drop_zero, List.nil_append, List.cons_append, List.append_nil, List.drop_nil, List.take_nil, List.replicate_succ, List.replicate_zero, List.flatten_cons, List.flatten_nil, Nat.reduceAdd, Nat.reduceMul, Nat.reduceSub, Nat.reduceLeDiff, Nat.zero_add, Nat.add_zero, Nat.mul_one, Nat.one_mul, Nat.zero_mul, Nat.zero_le, Int.toNat_natCast, Int.toNat_zero, Int.reduceToNat, Nat.sub_zero, Nat.le_refl,
    sets, List.cons.injEq, inR_i64, inR_u64, inR_u32, inR_i32, inR_u8, dB_True, dB_False, dB_neg, dB_beq_true, dB_beq_false, maxLen_eq, true_and, and_true, Bool.not_true, Bool.not_false, Bool.false_eq_true, Bool.not_eq_true, retQ_nrm, retQ_ret, resD_t, resT, Option.some.injEq, D.sl.injEq, D.int.injEq, D.bool.injEq, and_self, ne_eq, not_false_eq_true, not_true_eq_false, forall_const, D.flat, D.flat0, D.simple, Int.reduceLT, Int.reduceLE, Int.reduceEq, Int.reduceNeg, Int.reduceSub, Int.reduceAdd, Int.reduceMul, Int.ofNat_eq_natCast, imp_self, implies_true, false_implies]
  refine loopF_of (fun E => ∃ k : Nat, k ≤ l.length ∧ E = [(0, .sl l.length (strs l)), (1, .sl l.length (strs l)), (12, .int .i64 l.length), (13, .int .i64 k)])
    (fun E => match lk E 13 with | .int _ i => l.length - i.toNat | _ => 0) ⟨0, Nat.zero_le _, rfl⟩ ?_
  rintro _ ⟨k, hk, rfl⟩
  simp only [initE, wC_seq, wC_reg, wC_cnd, wC_blk, wC_loop, wC_exit, wC_skip, wC_ret, wC_bad, GB_eq, zap_nil, zap_cons, lgF_g, lgF_b, sgOF_g, sgOF_b, sgPF_g, sgPF_b, Nat.reduceBNe, Nat.reduceLT, wC_rfn, wC_cus, asgK_nrm, bodK_nrm, wE_nil, wE_none, wE_st, wE_some, regK_eq, seqK_nrm, seqK_exit, seqK_ret, blkK_nrm, blkK_exit, blkK_ret, loopK_nrm, loopK_exit, loopK_ret,
    cndF_t, cndF_f, cndF_p, grdF_t, grdF_f, grdF_s, grdF_pt, grdF_pf, stepF, ev_v, ev_k, ev_o, oev_al, oev_int, oev_sl, oev_str, oev_agg, oev_pt, oev_bool, lk_cons, lk_nil, st1_cons, st1_nil, keepE_cons, keepE_nil, D.clean, reduceIte, Nat.reduceEqDiff,
    putF_int, putF_bool, putF_str, putF_sl, putF_agg, putF_tup, putF_pt, putF_clo, putF_err, mvF, moF, tkF, shF, ariF, ciF, catF, scF, ebF, eqF, eqOk, eqPr, enF, notF, ngF, cvF, csF, csbF, cbsF_s, cbsF_o, lenF, lenSF, ixF, iaF, PX.slot, iaAF, atV, atO, faF, ldF, ldC_ints, ldC_ints', ldC_aggc, ldC_cons, D.mem, stF, stG_ints, stG_box, bxF, mkSF, appF_oo, appF_os, ints_app, ints_snoc, ints_length, ints_nil, cut_ints, slcF_o, slcF_s, slc2_eq, slSF_eq, slS2_eq, boundF, Option.map_some, Option.map_none, mkfF_eq, capt_eq, captD_box, captD_pt, extF_eq, extO_eq, List.getElem?_cons_zero, List.getElem?_cons_succ, pickF_t, pickF_f, pickF_p, fldF, mmF2,
    lend_eq, List.map_cons, List.map_nil, D.plain, D.isPure, optAll, dulls_nil, dulls_v, dulls_k, dulls_o, D.dull, callVF, bldF_eq, bldSF_eq, fillD_nil, fillD_cons, splice, D.cells, D.one, List.length_cons, List.length_nil, List.all_cons, List.all_nil, Bool.and_self, Bool.and_true, Bool.true_and, List.take_succ_cons, List.take_zero, List.drop_succ_cons, List.drop_zero, List.nil_append, List.cons_append, List.append_nil, List.drop_nil, List.take_nil, List.replicate_succ, List.replicate_zero, List.flatten_cons, List.flatten_nil, Nat.reduceAdd, Nat.reduceMul, Nat.reduceSub, Nat.reduceLeDiff, Nat.zero_add, Nat.add_zero, Nat.mul_one, Nat.one_mul, Nat.zero_mul, Nat.zero_le, Int.toNat_natCast, Int.toNat_zero, Int.reduceToNat, Nat.sub_zero, Nat.le_refl,
    sets, List.cons.injEq, inR_i64, inR_u64, inR_u32, inR_i32, inR_u8, dB_True, dB_False, dB_neg, dB_beq_true, dB_beq_false, maxLen_eq, true_and, and_true, Bool.not_true, Bool.not_false, Bool.false_eq_true, Bool.not_eq_true, retQ_nrm, retQ_ret, resD_t, resT, Option.some.injEq, D.sl.injEq, D.int.injEq, D.bool.injEq, and_self, ne_eq, not_false_eq_true, not_true_eq_false, forall_const, D.flat, D.flat0, D.simple, Int.reduceLT, Int.reduceLE, Int.reduceEq, Int.reduceNeg, Int.reduceSub, Int.reduceAdd, Int.reduceMul, Int.ofNat_eq_natCast, imp_self, implies_true, false_implies, ldC_strs]
  intro h1
  have hx : l[k]? = some (l[k]'(by omega)) := List.getElem?_eq_getElem (by omega)
  generalize l[k]'(by omega) = x at hx
  refine ⟨⟨by omega, by rw [strs_length]; omega⟩, x, hx, ⟨by omega, by rw [strs_length]; omega⟩, x, hx, ?_⟩
  simp only [initE, wC_seq, wC_reg, wC_cnd, wC_blk, wC_loop, wC_exit, wC_skip, wC_ret, wC_bad, GB_eq, zap_nil, zap_cons, lgF_g, lgF_b, sgOF_g, sgOF_b, sgPF_g, sgPF_b, Nat.reduceBNe, Nat.reduceLT, wC_rfn, wC_cus, asgK_nrm, bodK_nrm, wE_nil, wE_none, wE_st, wE_some, regK_eq, seqK_nrm, seqK_exit, seqK_ret, blkK_nrm, blkK_exit, blkK_ret, loopK_nrm, loopK_exit, loopK_ret,
    cndF_t, cndF_f, cndF_p, grdF_t, grdF_f, grdF_s, grdF_pt, grdF_pf, stepF, ev_v, ev_k, ev_o, oev_al, oev_int, oev_sl, oev_str, oev_agg, oev_pt, oev_bool, lk_cons, lk_nil, st1_cons, st1_nil, keepE_cons, keepE_nil, D.clean, reduceIte, Nat.reduceEqDiff,
    putF_int, putF_bool, putF_str, putF_sl, putF_agg, putF_tup, putF_pt, putF_clo, putF_err, mvF, moF, tkF, shF, ariF, ciF, catF, scF, ebF, eqF, eqOk, eqPr, enF, notF, ngF, cvF, csF, csbF, cbsF_s, cbsF_o, lenF, lenSF, ixF, iaF, PX.slot, iaAF, atV, atO, faF, ldF, ldC_ints, ldC_ints', ldC_aggc, ldC_cons, D.mem, stF, stG_ints, stG_box, bxF, mkSF, appF_oo, appF_os, ints_app, ints_snoc, ints_length, ints_nil, cut_ints, slcF_o, slcF_s, slc2_eq, slSF_eq, slS2_eq, boundF, Option.map_some, Option.map_none, mkfF_eq, capt_eq, captD_box, captD_pt, extF_eq, extO_eq, List.getElem?_cons_zero, List.getElem?_cons_succ, pickF_t, pickF_f, pickF_p, fldF, mmF2,
    lend_eq, List.map_cons, List.map_nil, D.plain, D.isPure, optAll, dulls_nil, dulls_v, dulls_k, dulls_o, D.dull, callVF, bldF_eq, bldSF_eq, fillD_nil, fillD_cons, splice, D.cells, D.one, List.length_cons, List.length_nil, List.all_cons, List.all_nil, Bool.and_self, Bool.and_true, Bool.true_and, List.take_succ_cons, List.take_zero, List.drop_succ_cons, List.drop_zero, List.nil_append, List.cons_append, List.append_nil, List.drop_nil, List.take_nil, List.replicate_succ, List.replicate_zero, List.flatten_cons, List.flatten_nil, Nat.reduceAdd, Nat.reduceMul, Nat.reduceSub, Nat.reduceLeDiff, Nat.zero_add, Nat.add_zero, Nat.mul_one, Nat.one_mul, Nat.zero_mul, Nat.zero_le, Int.toNat_natCast, Int.toNat_zero, Int.reduceToNat, Nat.sub_zero, Nat.le_refl,
    sets, List.cons.injEq, inR_i64, inR_u64, inR_u32, inR_i32, inR_u8, dB_True, dB_False, dB_neg, dB_beq_true, dB_beq_false, maxLen_eq, true_and, and_true, Bool.not_true, Bool.not_false, Bool.false_eq_true, Bool.not_eq_true, retQ_nrm, retQ_ret, resD_t, resT, Option.some.injEq, D.sl.injEq, D.int.injEq, D.bool.injEq, and_self, ne_eq, not_false_eq_true, not_true_eq_false, forall_const, D.flat, D.flat0, D.simple, Int.reduceLT, Int.reduceLE, Int.reduceEq, Int.reduceNeg, Int.reduceSub, Int.reduceAdd, Int.reduceMul, Int.ofNat_eq_natCast, imp_self, implies_true, false_implies]
  exact ⟨by omega, ⟨k + 1, by omega, rfl⟩, by omega⟩

theorem idxA_ge {α : Type} {p : α → Bool} : ∀ {l : List α} {k : Nat}, ¬ 0 ≤ idxA p l k → ∀ x ∈ l, p x = false
  | [], _, _ => fun x hx => by cases hx
  | y :: l, k, h => by
    simp only [idxA] at h
    cases hy : p y with
    | true => rw [hy] at h; exact absurd (show (0 : Int) ≤ (k : Int) by omega) h
    | false =>
      rw [hy] at h
      intro x hx
      rcases List.mem_cons.1 hx with rfl | hx
      · exact hy
      · exact idxA_ge h x hx

/-- what is known of the columns of plans -/
structure ColOk (l : List Lay) : Prop where
  len : l.length ≤ 4
  lay : ∀ x ∈ l, ∃ k a b, k < 6 ∧ a < 4 ∧ b < 8 ∧ x = layOf k a b
  nd : (l.map Lay.u).Nodup

theorem mkStep_ok (p : Pl) {out : List Lay} (x : Int) (h : ColOk out) : ColOk (mkStep p out x) := by
  unfold mkStep
  split
  · exact h
  · rename_i hn
    simp only [not_or] at hn
    refine ⟨?_, ?_, ?_⟩
    · rw [List.length_append, List.length_singleton]; have := h.len; omega
    · intro y hy
      rcases List.mem_append.1 hy with hy | hy
      · exact h.lay y hy
      · rw [List.mem_singleton.1 hy]
        exact ⟨_, _, _, by omega, l84 _, l8 _, rfl⟩
    · rw [List.map_append, List.nodup_append]
      refine ⟨h.nd, by simp, ?_⟩
      intro a ha b hb e
      subst e
      simp only [List.map_cons, List.map_nil, List.mem_singleton] at hb
      obtain ⟨y, hy, rfl⟩ := List.mem_map.1 ha
      have := idxA_ge hn.2 y hy
      rw [beq_eq_false_iff_ne] at this
      exact this hb

theorem foldl_ok (p : Pl) : ∀ (l : List Int) (out : List Lay), ColOk out → ColOk (l.foldl (mkStep p) out)
  | [], _, h => h
  | x :: l, _, h => foldl_ok p l _ (mkStep_ok p x h)

theorem Pl.make_ok (p : Pl) : ColOk p.make := foldl_ok p _ _ ⟨Nat.zero_le _, fun x h => (by cases h), List.nodup_nil⟩
theorem Pl.make_pos (p : Pl) : 0 < p.make.length := by
  unfold Pl.make
  rw [List.foldl_append]
  simp only [List.foldl_cons, List.foldl_nil]
  generalize List.foldl (mkStep p) [] p.us = out
  unfold mkStep
  split
  · rename_i h
    rcases h with h | h
    · omega
    · cases out with
      | nil => simp [idx, idxA] at h
      | cons a l => simp
  · simp

theorem ColOk.small {l : List Lay} (h : ColOk l) : ∀ x ∈ l, x.small := fun x hx => by
  obtain ⟨k, a, b, _, _, _, rfl⟩ := h.lay x hx; exact layOf_small k a b
theorem ColOk.layOk {l : List Lay} (h : ColOk l) : ∀ x ∈ l, LayOk x := fun x hx => by
  obtain ⟨k, a, b, h1, h2, h3, rfl⟩ := h.lay x hx; exact layOf_ok k a b h1 h2 h3
theorem ColOk.check {l : List Lay} (h : ColOk l) (h0 : 0 < l.length) : Con Tryz.prog Tryz.L 45 [.sl l.length (lays l)] (.int .i64 0) :=
  Tryz.c45 l h0 (by have := h.len; omega) h.nd h.layOk

theorem Tryz.c3 (p : Pl) (hp : p.ok) : Con Tryz.prog Tryz.L 3 [p.d] (.bool true) := by
  refine rule3 Tryz.hL (fun q hq => by simp [PC.backs, pc3] at hq; subst hq; exact back53) rfl rfl rfl ?_
  simp only [pc3, rs3, Pl.d, initE, wC_seq, wC_reg, wC_cnd, wC_blk, wC_loop, wC_exit, wC_skip, wC_ret, wC_bad, GB_eq, zap_nil, zap_cons, lgF_g, lgF_b, sgOF_g, sgOF_b, sgPF_g, sgPF_b, Nat.reduceBNe, Nat.reduceLT, wC_rfn, wC_cus, asgK_nrm, bodK_nrm, wE_nil, wE_none, wE_st, wE_some, regK_eq, seqK_nrm, seqK_exit, seqK_ret, blkK_nrm, blkK_exit, blkK_ret, loopK_nrm, loopK_exit, loopK_ret,
    cndF_t, cndF_f, cndF_p, grdF_t, grdF_f, grdF_s, grdF_pt, grdF_pf, stepF, ev_v, ev_k, ev_o, oev_al, oev_int, oev_sl, oev_str, oev_agg, oev_pt, oev_bool, lk_cons, lk_nil, st1_cons, st1_nil, keepE_cons, keepE_nil, D.clean, reduceIte, Nat.reduceEqDiff,
    putF_int, putF_bool, putF_str, putF_sl, putF_agg, putF_tup, putF_pt, putF_clo, putF_err, mvF, moF, tkF, shF, ariF, ciF, catF, scF, ebF, eqF, eqOk, eqPr, enF, notF, ngF, cvF, csF, csbF, cbsF_s, cbsF_o, lenF, lenSF, ixF, iaF, PX.slot, iaAF, atV, atO, faF, ldF, ldC_ints, ldC_ints', ldC_aggc, ldC_cons, D.mem, stF, stG_ints, stG_box, bxF, mkSF, appF_oo, appF_os, ints_app, ints_snoc, ints_length, ints_nil, cut_ints, slcF_o, slcF_s, slc2_eq, slSF_eq, slS2_eq, boundF, Option.map_some, Option.map_none, mkfF_eq, capt_eq, captD_box, captD_pt, extF_eq, extO_eq, List.getElem?_cons_zero, List.getElem?_cons_succ, pickF_t, pickF_f, pickF_p, fldF, mmF2,
    lend_eq, List.map_cons, List.map_nil, D.plain, D.isPure, optAll, dulls_nil, dulls_v, dulls_k, dulls_o, D.dull, callVF, bldF_eq, bldSF_eq, fillD_nil, fillD_cons, splice, D.cells, D.one, List.length_cons, List.length_nil, List.all_cons, List.all_nil, Bool.and_self, Bool.and_true, Bool.true_and, List.take_succ_cons, List.take_zero, List.drop_succ_cons, List.drop_zero, List.nil_append, List.cons_append, List.append_nil, List.drop_nil, List.take_nil, List.replicate_succ, List.replicate_zero, List.flatten_cons, List.flatten_nil, Nat.reduceAdd, Nat.reduceMul, Nat.reduceSub, Nat.reduceLeDiff, Nat.zero_add, Nat.add_zero, Nat.mul_one, Nat.one_mul, Nat.zero_mul, Nat.zero_le, Int.toNat_natCast, Int.toNat_zero, Int.reduceToNat, Nat.sub_zero, Nat.le_refl,
    sets, List.cons.injEq, inR_i64, inR_u64, inR_u32, inR_i32, inR_u8, dB_True, dB_False, dB_neg, dB_beq_true, dB_beq_false, maxLen_eq, true_and, and_true, Bool.not_true, Bool.not_false, Bool.false_eq_true, Bool.not_eq_true, retQ_nrm, retQ_ret, resD_t, resT, Option.some.injEq, D.sl.injEq, D.int.injEq, D.bool.injEq, and_self, ne_eq, not_false_eq_true, not_true_eq_false, forall_const, D.flat, D.flat0, D.simple, Int.reduceLT, Int.reduceLE, Int.reduceEq, Int.reduceNeg, Int.reduceSub, Int.reduceAdd, Int.reduceMul, Int.ofNat_eq_natCast, imp_self, implies_true, false_implies]
  refine callF_of Tryz.c11 ?_
  simp only [initE, wC_seq, wC_reg, wC_cnd, wC_blk, wC_loop, wC_exit, wC_skip, wC_ret, wC_bad, GB_eq, zap_nil, zap_cons, lgF_g, lgF_b, sgOF_g, sgOF_b, sgPF_g, sgPF_b, Nat.reduceBNe, Nat.reduceLT, wC_rfn, wC_cus, asgK_nrm, bodK_nrm, wE_nil, wE_none, wE_st, wE_some, regK_eq, seqK_nrm, seqK_exit, seqK_ret, blkK_nrm, blkK_exit, blkK_ret, loopK_nrm, loopK_exit, loopK_ret,
    cndF_t, cndF_f, cndF_p, grdF_t, grdF_f, grdF_s, grdF_pt, grdF_pf, stepF, ev_v, ev_k, ev_o, oev_al, oev_int, oev_sl, oev_str, oev_agg, oev_pt, oev_bool, lk_cons, lk_nil, st1_cons, st1_nil, keepE_cons, keepE_nil, D.clean, reduceIte, Nat.reduceEqDiff,
    putF_int, putF_bool, putF_str, putF_sl, putF_agg, putF_tup, putF_pt, putF_clo, putF_err, mvF, moF, tkF, shF, ariF, ciF, catF, scF, ebF, eqF, eqOk, eqPr, enF, notF, ngF, cvF, csF, csbF, cbsF_s, cbsF_o, lenF, lenSF, ixF, iaF, PX.slot, iaAF, atV, atO, faF, ldF, ldC_ints, ldC_ints', ldC_aggc, ldC_cons, D.mem, stF, stG_ints, stG_box, bxF, mkSF, appF_oo, appF_os, ints_app, ints_snoc, ints_length, ints_nil, cut_ints, slcF_o, slcF_s, slc2_eq, slSF_eq, slS2_eq, boundF, Option.map_some, Option.map_none, mkfF_eq, capt_eq, captD_box, captD_pt, extF_eq, extO_eq, List.getElem?_cons_zero, List.getElem?_cons_succ, pickF_t, pickF_f, pickF_p, fldF, mmF2,
    lend_eq, List.map_cons, List.map_nil, D.plain, D.isPure, optAll, dulls_nil, dulls_v, dulls_k, dulls_o, D.dull, callVF, bldF_eq, bldSF_eq, fillD_nil, fillD_cons, splice, D.cells, D.one, List.length_cons, List.length_nil, List.all_cons, List.all_nil, Bool.and_self, Bool.and_true, Bool.true_and, List.take_succ_cons, List.take_zero, List.drop_succ_cons, List.drop_zero, List.nil_append, List.cons_append, List.append_nil, List.drop_nil, List.take_nil, List.replicate_succ, List.replicate_zero, List.flatten_cons, List.flatten_nil, Nat.reduceAdd, Nat.reduceMul, Nat.reduceSub, Nat.reduceLeDiff, Nat.zero_add, Nat.add_zero, Nat.mul_one, Nat.one_mul, Nat.zero_mul, Nat.zero_le, Int.toNat_natCast, Int.toNat_zero, Int.reduceToNat, Nat.sub_zero, Nat.le_refl,
    sets, List.cons.injEq, inR_i64, inR_u64, inR_u32, inR_i32, inR_u8, dB_True, dB_False, dB_neg, dB_beq_true, dB_beq_false, maxLen_eq, true_and, and_true, Bool.not_true, Bool.not_false, Bool.false_eq_true, Bool.not_eq_true, retQ_nrm, retQ_ret, resD_t, resT, Option.some.injEq, D.sl.injEq, D.int.injEq, D.bool.injEq, and_self, ne_eq, not_false_eq_true, not_true_eq_false, forall_const, D.flat, D.flat0, D.simple, Int.reduceLT, Int.reduceLE, Int.reduceEq, Int.reduceNeg, Int.reduceSub, Int.reduceAdd, Int.reduceMul, Int.ofNat_eq_natCast, imp_self, implies_true, false_implies]
  refine callF_of (Tryz.c12 p hp) ?_
  simp only [initE, wC_seq, wC_reg, wC_cnd, wC_blk, wC_loop, wC_exit, wC_skip, wC_ret, wC_bad, GB_eq, zap_nil, zap_cons, lgF_g, lgF_b, sgOF_g, sgOF_b, sgPF_g, sgPF_b, Nat.reduceBNe, Nat.reduceLT, wC_rfn, wC_cus, asgK_nrm, bodK_nrm, wE_nil, wE_none, wE_st, wE_some, regK_eq, seqK_nrm, seqK_exit, seqK_ret, blkK_nrm, blkK_exit, blkK_ret, loopK_nrm, loopK_exit, loopK_ret,
    cndF_t, cndF_f, cndF_p, grdF_t, grdF_f, grdF_s, grdF_pt, grdF_pf, stepF, ev_v, ev_k, ev_o, oev_al, oev_int, oev_sl, oev_str, oev_agg, oev_pt, oev_bool, lk_cons, lk_nil, st1_cons, st1_nil, keepE_cons, keepE_nil, D.clean, reduceIte, Nat.reduceEqDiff,
    putF_int, putF_bool, putF_str, putF_sl, putF_agg, putF_tup, putF_pt, putF_clo, putF_err, mvF, moF, tkF, shF, ariF, ciF, catF, scF, ebF, eqF, eqOk, eqPr, enF, notF, ngF, cvF, csF, csbF, cbsF_s, cbsF_o, lenF, lenSF, ixF, iaF, PX.slot, iaAF, atV, atO, faF, ldF, ldC_ints, ldC_ints', ldC_aggc, ldC_cons, D.mem, stF, stG_ints, stG_box, bxF, mkSF, appF_oo, appF_os, ints_app, ints_snoc, ints_length, ints_nil, cut_ints, slcF_o, slcF_s, slc2_eq, slSF_eq, slS2_eq, boundF, Option.map_some, Option.map_none, mkfF_eq, capt_eq, captD_box, captD_pt, extF_eq, extO_eq, List.getElem?_cons_zero, List.getElem?_cons_succ, pickF_t, pickF_f, pickF_p, fldF, mmF2,
    lend_eq, List.map_cons, List.map_nil, D.plain, D.isPure, optAll, dulls_nil, dulls_v, dulls_k, dulls_o, D.dull, callVF, bldF_eq, bldSF_eq, fillD_nil, fillD_cons, splice, D.cells, D.one, List.length_cons, List.length_nil, List.all_cons, List.all_nil, Bool.and_self, Bool.and_true, Bool.true_and, List.take_succ_cons, List.take_zero, List.drop_succ_cons, List.drop_zero, List.nil_append, List.cons_append, List.append_nil, List.drop_nil, List.take_nil, List.replicate_succ, List.replicate_zero, List.flatten_cons, List.flatten_nil, Nat.reduceAdd, Nat.reduceMul, Nat.reduceSub, Nat.reduceLeDiff, Nat.zero_add, Nat.add_zero, Nat.mul_one, Nat.one_mul, Nat.zero_mul, Nat.zero_le, Int.toNat_natCast, Int.toNat_zero, Int.reduceToNat, Nat.sub_zero, Nat.le_refl,
    sets, List.cons.injEq, inR_i64, inR_u64, inR_u32, inR_i32, inR_u8, dB_True, dB_False, dB_neg, dB_beq_true, dB_beq_false, maxLen_eq, true_and, and_true, Bool.not_true, Bool.not_false, Bool.false_eq_true, Bool.not_eq_true, retQ_nrm, retQ_ret, resD_t, resT, Option.some.injEq, D.sl.injEq, D.int.injEq, D.bool.injEq, and_self, ne_eq, not_false_eq_true, not_true_eq_false, forall_const, D.flat, D.flat0, D.simple, Int.reduceLT, Int.reduceLE, Int.reduceEq, Int.reduceNeg, Int.reduceSub, Int.reduceAdd, Int.reduceMul, Int.ofNat_eq_natCast, imp_self, implies_true, false_implies]
  have hok := p.make_ok
  have hpos := p.make_pos
  have hlen := hok.len
  have hsm := hok.small
  refine callF_of (Tryz.c13 p.make hsm (by omega) (hok.check hpos)) ?_
  simp only [initE, wC_seq, wC_reg, wC_cnd, wC_blk, wC_loop, wC_exit, wC_skip, wC_ret, wC_bad, GB_eq, zap_nil, zap_cons, lgF_g, lgF_b, sgOF_g, sgOF_b, sgPF_g, sgPF_b, Nat.reduceBNe, Nat.reduceLT, wC_rfn, wC_cus, asgK_nrm, bodK_nrm, wE_nil, wE_none, wE_st, wE_some, regK_eq, seqK_nrm, seqK_exit, seqK_ret, blkK_nrm, blkK_exit, blkK_ret, loopK_nrm, loopK_exit, loopK_ret,
    cndF_t, cndF_f, cndF_p, grdF_t, grdF_f, grdF_s, grdF_pt, grdF_pf, stepF, ev_v, ev_k, ev_o, oev_al, oev_int, oev_sl, oev_str, oev_agg, oev_pt, oev_bool, lk_cons, lk_nil, st1_cons, st1_nil, keepE_cons, keepE_nil, D.clean, reduceIte, Nat.reduceEqDiff,
    putF_int, putF_bool, putF_str, putF_sl, putF_agg, putF_tup, putF_pt, putF_clo, putF_err, mvF, moF, tkF, shF, ariF, ciF, catF, scF, ebF, eqF, eqOk, eqPr, enF, notF, ngF, cvF, csF, csbF, cbsF_s, cbsF_o, lenF, lenSF, ixF, iaF, PX.slot, iaAF, atV, atO, faF, ldF, ldC_ints, ldC_ints', ldC_aggc, ldC_cons, D.mem, stF, stG_ints, stG_box, bxF, mkSF, appF_oo, appF_os, ints_app, ints_snoc, ints_length, ints_nil, cut_ints, slcF_o, slcF_s, slc2_eq, slSF_eq, slS2_eq, boundF, Option.map_some, Option.map_none, mkfF_eq, capt_eq, captD_box, captD_pt, extF_eq, extO_eq, List.getElem?_cons_zero, List.getElem?_cons_succ, pickF_t, pickF_f, pickF_p, fldF, mmF2,
    lend_eq, List.map_cons, List.map_nil, D.plain, D.isPure, optAll, dulls_nil, dulls_v, dulls_k, dulls_o, D.dull, callVF, bldF_eq, bldSF_eq, fillD_nil, fillD_cons, splice, D.cells, D.one, List.length_cons, List.length_nil, List.all_cons, List.all_nil, Bool.and_self, Bool.and_true, Bool.true_and, List.take_succ_cons, List.take_zero, List.drop_succ_cons, List.drop_zero, List.nil_append, List.cons_append, List.append_nil, List.drop_nil, List.take_nil, List.replicate_succ, List.replicate_zero, List.flatten_cons, List.flatten_nil, Nat.reduceAdd, Nat.reduceMul, Nat.reduceSub, Nat.reduceLeDiff, Nat.zero_add, Nat.add_zero, Nat.mul_one, Nat.one_mul, Nat.zero_mul, Nat.zero_le, Int.toNat_natCast, Int.toNat_zero, Int.reduceToNat, Nat.sub_zero, Nat.le_refl,
    sets, List.cons.injEq, inR_i64, inR_u64, inR_u32, inR_i32, inR_u8, dB_True, dB_False, dB_neg, dB_beq_true, dB_beq_false, maxLen_eq, true_and, and_true, Bool.not_true, Bool.not_false, Bool.false_eq_true, Bool.not_eq_true, retQ_nrm, retQ_ret, resD_t, resT, Option.some.injEq, D.sl.injEq, D.int.injEq, D.bool.injEq, and_self, ne_eq, not_false_eq_true, not_true_eq_false, forall_const, D.flat, D.flat0, D.simple, Int.reduceLT, Int.reduceLE, Int.reduceEq, Int.reduceNeg, Int.reduceSub, Int.reduceAdd, Int.reduceMul, Int.ofNat_eq_natCast, imp_self, implies_true, false_implies]
  refine callF_of (Tryz.c14 _ _) ?_
  simp only [initE, wC_seq, wC_reg, wC_cnd, wC_blk, wC_loop, wC_exit, wC_skip, wC_ret, wC_bad, GB_eq, zap_nil, zap_cons, lgF_g, lgF_b, sgOF_g, sgOF_b, sgPF_g, sgPF_b, Nat.reduceBNe, Nat.reduceLT, wC_rfn, wC_cus, asgK_nrm, bodK_nrm, wE_nil, wE_none, wE_st, wE_some, regK_eq, seqK_nrm, seqK_exit, seqK_ret, blkK_nrm, blkK_exit, blkK_ret, loopK_nrm, loopK_exit, loopK_ret,
    cndF_t, cndF_f, cndF_p, grdF_t, grdF_f, grdF_s, grdF_pt, grdF_pf, stepF, ev_v, ev_k, ev_o, oev_al, oev_int, oev_sl, oev_str, oev_agg, oev_pt, oev_bool, lk_cons, lk_nil, st1_cons, st1_nil, keepE_cons, keepE_nil, D.clean, reduceIte, Nat.reduceEqDiff,
    putF_int, putF_bool, putF_str, putF_sl, putF_agg, putF_tup, putF_pt, putF_clo, putF_err, mvF, moF, tkF, shF, ariF, ciF, catF, scF, ebF, eqF, eqOk, eqPr, enF, notF, ngF, cvF, csF, csbF, cbsF_s, cbsF_o, lenF, lenSF, ixF, iaF, PX.slot, iaAF, atV, atO, faF, ldF, ldC_ints, ldC_ints', ldC_aggc, ldC_cons, D.mem, stF, stG_ints, stG_box, bxF, mkSF, appF_oo, appF_os, ints_app, ints_snoc, ints_length, ints_nil, cut_ints, slcF_o, slcF_s, slc2_eq, slSF_eq, slS2_eq, boundF, Option.map_some, Option.map_none, mkfF_eq, capt_eq, captD_box, captD_pt, extF_eq, extO_eq, List.getElem?_cons_zero, List.getElem?_cons_succ, pickF_t, pickF_f, pickF_p, fldF, mmF2,
    lend_eq, List.map_cons, List.map_nil, D.plain, D.isPure, optAll, dulls_nil, dulls_v, dulls_k, dulls_o, D.dull, callVF, bldF_eq, bldSF_eq, fillD_nil, fillD_cons, splice, D.cells, D.one, List.length_cons, List.length_nil, List.all_cons, List.all_nil, Bool.and_self, Bool.and_true, Bool.true_and, List.take_succ_cons, List.take_zero, List.drop_succ_cons, List.drop_zero, List.nil_append, List.cons_append, List.append_nil, List.drop_nil, List.take_nil, List.replicate_succ, List.replicate_zero, List.flatten_cons, List.flatten_nil, Nat.reduceAdd, Nat.reduceMul, Nat.reduceSub, Nat.reduceLeDiff, Nat.zero_add, Nat.add_zero, Nat.mul_one, Nat.one_mul, Nat.zero_mul, Nat.zero_le, Int.toNat_natCast, Int.toNat_zero, Int.reduceToNat, Nat.sub_zero, Nat.le_refl,
    sets, List.cons.injEq, inR_i64, inR_u64, inR_u32, inR_i32, inR_u8, dB_True, dB_False, dB_neg, dB_beq_true, dB_beq_false, maxLen_eq, true_and, and_true, Bool.not_true, Bool.not_false, Bool.false_eq_true, Bool.not_eq_true, retQ_nrm, retQ_ret, resD_t, resT, Option.some.injEq, D.sl.injEq, D.int.injEq, D.bool.injEq, and_self, ne_eq, not_false_eq_true, not_true_eq_false, forall_const, D.flat, D.flat0, D.simple, Int.reduceLT, Int.reduceLE, Int.reduceEq, Int.reduceNeg, Int.reduceSub, Int.reduceAdd, Int.reduceMul, Int.ofNat_eq_natCast, imp_self, implies_true, false_implies]
  generalize p.make = l at hok hpos hlen hsm
  refine rfnF_of (fun k E => ∃ hk : k ≤ l.length, E = [(4, .sl l.length (strs (l.reverse.map Lay.line))), (5, .int .i64 0), (6, .gbox 1000006), (20, .clo 53 [.pt [.sl l.length (lays l)]]), (1000006, .own true 9 k (strs ((l.reverse.map Lay.line).take k)))])
    (by rw [rows_length Lay.d_len]) ⟨Nat.zero_le _, rfl⟩ (fun k E1 hE => by obtain ⟨_, rfl⟩ := hE; rfl) ?_ ?_
  · rintro _ ⟨_, rfl⟩
    simp only [initE, wC_seq, wC_reg, wC_cnd, wC_blk, wC_loop, wC_exit, wC_skip, wC_ret, wC_bad, GB_eq, zap_nil, zap_cons, lgF_g, lgF_b, sgOF_g, sgOF_b, sgPF_g, sgPF_b, Nat.reduceBNe, Nat.reduceLT, wC_rfn, wC_cus, asgK_nrm, bodK_nrm, wE_nil, wE_none, wE_st, wE_some, regK_eq, seqK_nrm, seqK_exit, seqK_ret, blkK_nrm, blkK_exit, blkK_ret, loopK_nrm, loopK_exit, loopK_ret,
    cndF_t, cndF_f, cndF_p, grdF_t, grdF_f, grdF_s, grdF_pt, grdF_pf, stepF, ev_v, ev_k, ev_o, oev_al, oev_int, oev_sl, oev_str, oev_agg, oev_pt, oev_bool, lk_cons, lk_nil, st1_cons, st1_nil, keepE_cons, keepE_nil, D.clean, reduceIte, Nat.reduceEqDiff,
    putF_int, putF_bool, putF_str, putF_sl, putF_agg, putF_tup, putF_pt, putF_clo, putF_err, mvF, moF, tkF, shF, ariF, ciF, catF, scF, ebF, eqF, eqOk, eqPr, enF, notF, ngF, cvF, csF, csbF, cbsF_s, cbsF_o, lenF, lenSF, ixF, iaF, PX.slot, iaAF, atV, atO, faF, ldF, ldC_ints, ldC_ints', ldC_aggc, ldC_cons, D.mem, stF, stG_ints, stG_box, bxF, mkSF, appF_oo, appF_os, ints_app, ints_snoc, ints_length, ints_nil, cut_ints, slcF_o, slcF_s, slc2_eq, slSF_eq, slS2_eq, boundF, Option.map_some, Option.map_none, mkfF_eq, capt_eq, captD_box, captD_pt, extF_eq, extO_eq, List.getElem?_cons_zero, List.getElem?_cons_succ, pickF_t, pickF_f, pickF_p, fldF, mmF2,
    lend_eq, List.map_cons, List.map_nil, D.plain, D.isPure, optAll, dulls_nil, dulls_v, dulls_k, dulls_o, D.dull, callVF, bldF_eq, bldSF_eq, fillD_nil, fillD_cons, splice, D.cells, D.one, List.length_cons, List.length_nil, List.all_cons, List.all_nil, Bool.and_self, Bool.and_true, Bool.true_and, List.take_succ_cons, List.take_zero, List.drop_succ_cons, List.drop_zero, List.nil_append, List.cons_append, List.append_nil, List.drop_nil, List.take_nil, List.replicate_succ, List.replicate_zero, List.flatten_cons, List.flatten_nil, Nat.reduceAdd, Nat.reduceMul, Nat.reduceSub, Nat.reduceLeDiff, Nat.zero_add, Nat.add_zero, Nat.mul_one, Nat.one_mul, Nat.zero_mul, Nat.zero_le, Int.toNat_natCast, Int.toNat_zero, Int.reduceToNat, Nat.sub_zero, Nat.le_refl,
    sets, List.cons.injEq, inR_i64, inR_u64, inR_u32, inR_i32, inR_u8, dB_True, dB_False, dB_neg, dB_beq_true, dB_beq_false, maxLen_eq, true_and, and_true, Bool.not_true, Bool.not_false, Bool.false_eq_true, Bool.not_eq_true, retQ_nrm, retQ_ret, resD_t, resT, Option.some.injEq, D.sl.injEq, D.int.injEq, D.bool.injEq, and_self, ne_eq, not_false_eq_true, not_true_eq_false, forall_const, D.flat, D.flat0, D.simple, Int.reduceLT, Int.reduceLE, Int.reduceEq, Int.reduceNeg, Int.reduceSub, Int.reduceAdd, Int.reduceMul, Int.ofNat_eq_natCast, imp_self, implies_true, false_implies]
    rw [List.take_of_length_le (by simp)]
    have h15 := Tryz.c15 (l.reverse.map Lay.line) (by simp; omega)
    rw [show (l.reverse.map Lay.line).length = l.length by simp] at h15
    refine callF_of h15 ?_
    simp only [initE, wC_seq, wC_reg, wC_cnd, wC_blk, wC_loop, wC_exit, wC_skip, wC_ret, wC_bad, GB_eq, zap_nil, zap_cons, lgF_g, lgF_b, sgOF_g, sgOF_b, sgPF_g, sgPF_b, Nat.reduceBNe, Nat.reduceLT, wC_rfn, wC_cus, asgK_nrm, bodK_nrm, wE_nil, wE_none, wE_st, wE_some, regK_eq, seqK_nrm, seqK_exit, seqK_ret, blkK_nrm, blkK_exit, blkK_ret, loopK_nrm, loopK_exit, loopK_ret,
    cndF_t, cndF_f, cndF_p, grdF_t, grdF_f, grdF_s, grdF_pt, grdF_pf, stepF, ev_v, ev_k, ev_o, oev_al, oev_int, oev_sl, oev_str, oev_agg, oev_pt, oev_bool, lk_cons, lk_nil, st1_cons, st1_nil, keepE_cons, keepE_nil, D.clean, reduceIte, Nat.reduceEqDiff,
    putF_int, putF_bool, putF_str, putF_sl, putF_agg, putF_tup, putF_pt, putF_clo, putF_err, mvF, moF, tkF, shF, ariF, ciF, catF, scF, ebF, eqF, eqOk, eqPr, enF, notF, ngF, cvF, csF, csbF, cbsF_s, cbsF_o, lenF, lenSF, ixF, iaF, PX.slot, iaAF, atV, atO, faF, ldF, ldC_ints, ldC_ints', ldC_aggc, ldC_cons, D.mem, stF, stG_ints, stG_box, bxF, mkSF, appF_oo, appF_os, ints_app, ints_snoc, ints_length, ints_nil, cut_ints, slcF_o, slcF_s, slc2_eq, slSF_eq, slS2_eq, boundF, Option.map_some, Option.map_none, mkfF_eq, capt_eq, captD_box, captD_pt, extF_eq, extO_eq, List.getElem?_cons_zero, List.getElem?_cons_succ, pickF_t, pickF_f, pickF_p, fldF, mmF2,
    lend_eq, List.map_cons, List.map_nil, D.plain, D.isPure, optAll, dulls_nil, dulls_v, dulls_k, dulls_o, D.dull, callVF, bldF_eq, bldSF_eq, fillD_nil, fillD_cons, splice, D.cells, D.one, List.length_cons, List.length_nil, List.all_cons, List.all_nil, Bool.and_self, Bool.and_true, Bool.true_and, List.take_succ_cons, List.take_zero, List.drop_succ_cons, List.drop_zero, List.nil_append, List.cons_append, List.append_nil, List.drop_nil, List.take_nil, List.replicate_succ, List.replicate_zero, List.flatten_cons, List.flatten_nil, Nat.reduceAdd, Nat.reduceMul, Nat.reduceSub, Nat.reduceLeDiff, Nat.zero_add, Nat.add_zero, Nat.mul_one, Nat.one_mul, Nat.zero_mul, Nat.zero_le, Int.toNat_natCast, Int.toNat_zero, Int.reduceToNat, Nat.sub_zero, Nat.le_refl,
    sets, List.cons.injEq, inR_i64, inR_u64, inR_u32, inR_i32, inR_u8, dB_True, dB_False, dB_neg, dB_beq_true, dB_beq_false, maxLen_eq, true_and, and_true, Bool.not_true, Bool.not_false, Bool.false_eq_true, Bool.not_eq_true, retQ_nrm, retQ_ret, resD_t, resT, Option.some.injEq, D.sl.injEq, D.int.injEq, D.bool.injEq, and_self, ne_eq, not_false_eq_true, not_true_eq_false, forall_const, D.flat, D.flat0, D.simple, Int.reduceLT, Int.reduceLE, Int.reduceEq, Int.reduceNeg, Int.reduceSub, Int.reduceAdd, Int.reduceMul, Int.ofNat_eq_natCast, imp_self, implies_true, false_implies]
  · rintro k _ hkm ⟨hk, rfl⟩
    have hx : l[l.length - 1 - k]? = some (l[l.length - 1 - k]'(by omega)) := List.getElem?_eq_getElem (by omega)
    have hr : (l.reverse.map Lay.line).take (k + 1) = (l.reverse.map Lay.line).take k ++ [(l[l.length - 1 - k]'(by omega)).line] := by
      rw [List.take_succ_eq_append_getElem (by simpa using hkm)]
      simp [List.getElem_reverse]
    have hsm := hsm _ (List.mem_of_getElem? hx)
    generalize l[l.length - 1 - k]'(by omega) = x at hx hr hsm
    refine ⟨_, ofCells_rows Lay.d_len hx, rfl, ?_⟩
    obtain ⟨h1, h2, h3⟩ := hsm
    simp only [Lay.d, initE, wC_seq, wC_reg, wC_cnd, wC_blk, wC_loop, wC_exit, wC_skip, wC_ret, wC_bad, GB_eq, zap_nil, zap_cons, lgF_g, lgF_b, sgOF_g, sgOF_b, sgPF_g, sgPF_b, Nat.reduceBNe, Nat.reduceLT, wC_rfn, wC_cus, asgK_nrm, bodK_nrm, wE_nil, wE_none, wE_st, wE_some, regK_eq, seqK_nrm, seqK_exit, seqK_ret, blkK_nrm, blkK_exit, blkK_ret, loopK_nrm, loopK_exit, loopK_ret,
    cndF_t, cndF_f, cndF_p, grdF_t, grdF_f, grdF_s, grdF_pt, grdF_pf, stepF, ev_v, ev_k, ev_o, oev_al, oev_int, oev_sl, oev_str, oev_agg, oev_pt, oev_bool, lk_cons, lk_nil, st1_cons, st1_nil, keepE_cons, keepE_nil, D.clean, reduceIte, Nat.reduceEqDiff,
    putF_int, putF_bool, putF_str, putF_sl, putF_agg, putF_tup, putF_pt, putF_clo, putF_err, mvF, moF, tkF, shF, ariF, ciF, catF, scF, ebF, eqF, eqOk, eqPr, enF, notF, ngF, cvF, csF, csbF, cbsF_s, cbsF_o, lenF, lenSF, ixF, iaF, PX.slot, iaAF, atV, atO, faF, ldF, ldC_ints, ldC_ints', ldC_aggc, ldC_cons, D.mem, stF, stG_ints, stG_box, bxF, mkSF, appF_oo, appF_os, ints_app, ints_snoc, ints_length, ints_nil, cut_ints, slcF_o, slcF_s, slc2_eq, slSF_eq, slS2_eq, boundF, Option.map_some, Option.map_none, mkfF_eq, capt_eq, captD_box, captD_pt, extF_eq, extO_eq, List.getElem?_cons_zero, List.getElem?_cons_succ, pickF_t, pickF_f, pickF_p, fldF, mmF2,
    lend_eq, List.map_cons, List.map_nil, D.plain, D.isPure, optAll, dulls_nil, dulls_v, dulls_k, dulls_o, D.dull, callVF, bldF_eq, bldSF_eq, fillD_nil, fillD_cons, splice, D.cells, D.one, List.length_cons, List.length_nil, List.all_cons, List.all_nil, Bool.and_self, Bool.and_true, Bool.true_and, List.take_succ_cons, List.take_zero, List.drop_succ_cons, List.drop_zero, List.nil_append, List.cons_append, List.append_nil, List.drop_nil, List.take_nil, List.replicate_succ, List.replicate_zero, List.flatten_cons, List.flatten_nil, Nat.reduceAdd, Nat.reduceMul, Nat.reduceSub, Nat.reduceLeDiff, Nat.zero_add, Nat.add_zero, Nat.mul_one, Nat.one_mul, Nat.zero_mul, Nat.zero_le, Int.toNat_natCast, Int.toNat_zero, Int.reduceToNat, Nat.sub_zero, Nat.le_refl,
    sets, List.cons.injEq, inR_i64, inR_u64, inR_u32, inR_i32, inR_u8, dB_True, dB_False, dB_neg, dB_beq_true, dB_beq_false, maxLen_eq, true_and, and_true, Bool.not_true, Bool.not_false, Bool.false_eq_true, Bool.not_eq_true, retQ_nrm, retQ_ret, resD_t, resT, Option.some.injEq, D.sl.injEq, D.int.injEq, D.bool.injEq, and_self, ne_eq, not_false_eq_true, not_true_eq_false, forall_const, D.flat, D.flat0, D.simple, Int.reduceLT, Int.reduceLE, Int.reduceEq, Int.reduceNeg, Int.reduceSub, Int.reduceAdd, Int.reduceMul, Int.ofNat_eq_natCast, imp_self, implies_true, false_implies]
    refine ⟨fun hb => ?_, fun hb => ?_⟩
    all_goals
      simp only [List.length_append, List.length_cons, List.length_nil]
      refine ⟨by omega, by omega, by omega, by omega, by omega, by omega, by omega, ?_⟩
      rw [hr, strs_snoc]
      simp [Lay.line, hb]
end Go.Proofs

/-
  SEAT 22: relations. Own work.
-/
namespace Go.Proofs
open Go Go.Pi Go.RowKit

theorem ldC_byD {l : List UInt8} {k t : Nat} {N : EP} {E : Env} : ldC false 1 (List.take 1 (List.drop k (byD l))) t N E = (∃ x, l[k]? = some x ∧ N (st1 E t (.int .u8 x.toNat))) := by
  unfold ldC
  have e0 : List.drop k (byD l) = byD (l.drop k) := by simp [byD]
  rw [e0]
  cases h : l[k]? with
  | none =>
    have hk : l.length ≤ k := by simpa using h
    rw [List.drop_eq_nil_of_le hk]; simp [ofCells, byD]
  | some x => rw [drop_cons h]; simp [ofCells, byD, D.one]

/-- a letter of a name: its first, or another one -/
def okP (k n : Nat) : Prop := (97 ≤ n ∧ n ≤ 122) ∨ (65 ≤ n ∧ n ≤ 90) ∨ (k ≠ 0 ∧ ((48 ≤ n ∧ n ≤ 57) ∨ n = 95))
instance (k n : Nat) : Decidable (okP k n) := by unfold okP; infer_instance
def nmA : List UInt8 → Nat → Bool
  | [], _ => true
  | c :: r, k => decide (okP k c.toNat) && nmA r (k + 1)
def nm (s : List UInt8) : Bool := s != [] && decide (s.length ≤ 32) && nmA s 0

set_option maxHeartbeats 2000000 in
theorem Tryz.c68g (s : List UInt8) : Con Tryz.prog Tryz.L 68 [.str s] (.bool (nm s)) := by
  refine rule68 Tryz.hL rfl rfl rfl ?_
  simp only [pc68, rs68, initE, wC_seq, wC_reg, wC_cnd, wC_blk, wC_loop, wC_exit, wC_skip, wC_ret, wC_bad, GB_eq, zap_nil, zap_cons, lgF_g, lgF_b, sgOF_g, sgOF_b, sgPF_g, sgPF_b, Nat.reduceBNe, Nat.reduceLT, wC_rfn, wC_cus, asgK_nrm, bodK_nrm, wE_nil, wE_none, wE_st, wE_some, regK_eq, seqK_nrm, seqK_exit, seqK_ret, blkK_nrm, blkK_exit, blkK_ret, loopK_nrm, loopK_exit, loopK_ret,
    cndF_t, cndF_f, cndF_p, grdF_t, grdF_f, grdF_s, grdF_pt, grdF_pf, stepF, ev_v, ev_k, ev_o, oev_al, oev_int, oev_sl, oev_str, oev_agg, oev_pt, oev_bool, lk_cons, lk_nil, st1_cons, st1_nil, keepE_cons, keepE_nil, D.clean, reduceIte, Nat.reduceEqDiff,
    putF_int, putF_bool, putF_str, putF_sl, putF_agg, putF_tup, putF_pt, putF_clo, putF_err, mvF, moF, tkF, shF, ariF, ciF, catF, scF, ebF, eqF, eqOk, eqPr, enF, notF, ngF, cvF, csF, csbF, cbsF_s, cbsF_o, lenF, lenSF, ixF, iaF, PX.slot, iaAF, atV, atO, faF, ldF, ldC_ints, ldC_ints', ldC_aggc, ldC_cons, D.mem, stF, stG_ints, stG_box, bxF, mkSF, appF_oo, appF_os, ints_app, ints_snoc, ints_length, ints_nil, cut_ints, slcF_o, slcF_s, slc2_eq, slSF_eq, slS2_eq, boundF, Option.map_some, Option.map_none, mkfF_eq, capt_eq, captD_box, captD_pt, extF_eq, extO_eq, List.getElem?_cons_zero, List.getElem?_cons_succ, pickF_t, pickF_f, pickF_p, fldF, mmF2,
    lend_eq, List.map_cons, List.map_nil, D.plain, D.isPure, optAll, dulls_nil, dulls_v, dulls_k, dulls_o, D.dull, callVF, bldF_eq, bldSF_eq, fillD_nil, fillD_cons, splice, D.cells, D.one, List.length_cons, List.length_nil, List.all_cons, List.all_nil, Bool.and_self, Bool.and_true, Bool.true_and, List.take_succ_cons, List.take_zero, List.drop_succ_cons, List.drop_zero, List.nil_append, List.cons_append, List.append_nil, List.drop_nil, List.take_nil, List.replicate_succ, List.replicate_zero, List.flatten_cons, List.flatten_nil, Nat.reduceAdd, Nat.reduceMul, Nat.reduceSub, Nat.reduceLeDiff, Nat.zero_add, Nat.add_zero, Nat.mul_one, Nat.one_mul, Nat.zero_mul, Nat.zero_le, Int.toNat_natCast, Int.toNat_zero, Int.reduceToNat, Nat.sub_zero, Nat.le_refl,
    sets, List.cons.injEq, inR_i64, inR_u64, inR_u32, inR_i32, inR_u8, dB_True, dB_False, dB_neg, dB_beq_true, dB_beq_false, maxLen_eq, true_and, and_true, Bool.not_true, Bool.not_false, Bool.false_eq_true, Bool.not_eq_true, retQ_nrm, retQ_ret, resD_t, resT, Option.some.injEq, D.sl.injEq, D.int.injEq, D.bool.injEq, and_self, ne_eq, not_false_eq_true, not_true_eq_false, forall_const, D.flat, D.flat0, D.simple, Int.reduceLT, Int.reduceLE, Int.reduceEq, Int.reduceNeg, Int.reduceSub, Int.reduceAdd, Int.reduceMul, Int.ofNat_eq_natCast, imp_self, implies_true, false_implies]
  refine ⟨fun h0 => ⟨fun h1 => by simp [nm]; omega, fun h1 => ?_⟩, fun h => by simp [nm, h]⟩
  have hnm : nm s = nmA s 0 := by simp [nm, h0]; omega
  refine loopF_of (fun E => ∃ k : Nat, k ≤ s.length ∧ nm s = nmA (s.drop k) k ∧ E = [(15, D.sl s.length (byD s)), (16, D.int IntKind.i64 s.length), (17, D.int IntKind.i64 k)])
    (fun E => match lk E 17 with | .int _ i => s.length - i.toNat | _ => 0) ⟨0, Nat.zero_le _, hnm, rfl⟩ ?_
  rintro _ ⟨k, hk, hi, rfl⟩
  simp only [initE, wC_seq, wC_reg, wC_cnd, wC_blk, wC_loop, wC_exit, wC_skip, wC_ret, wC_bad, GB_eq, zap_nil, zap_cons, lgF_g, lgF_b, sgOF_g, sgOF_b, sgPF_g, sgPF_b, Nat.reduceBNe, Nat.reduceLT, wC_rfn, wC_cus, asgK_nrm, bodK_nrm, wE_nil, wE_none, wE_st, wE_some, regK_eq, seqK_nrm, seqK_exit, seqK_ret, blkK_nrm, blkK_exit, blkK_ret, loopK_nrm, loopK_exit, loopK_ret,
    cndF_t, cndF_f, cndF_p, grdF_t, grdF_f, grdF_s, grdF_pt, grdF_pf, stepF, ev_v, ev_k, ev_o, oev_al, oev_int, oev_sl, oev_str, oev_agg, oev_pt, oev_bool, lk_cons, lk_nil, st1_cons, st1_nil, keepE_cons, keepE_nil, D.clean, reduceIte, Nat.reduceEqDiff,
    putF_int, putF_bool, putF_str, putF_sl, putF_agg, putF_tup, putF_pt, putF_clo, putF_err, mvF, moF, tkF, shF, ariF, ciF, catF, scF, ebF, eqF, eqOk, eqPr, enF, notF, ngF, cvF, csF, csbF, cbsF_s, cbsF_o, lenF, lenSF, ixF, iaF, PX.slot, iaAF, atV, atO, faF, ldF, ldC_ints, ldC_ints', ldC_aggc, ldC_cons, D.mem, stF, stG_ints, stG_box, bxF, mkSF, appF_oo, appF_os, ints_app, ints_snoc, ints_length, ints_nil, cut_ints, slcF_o, slcF_s, slc2_eq, slSF_eq, slS2_eq, boundF, Option.map_some, Option.map_none, mkfF_eq, capt_eq, captD_box, captD_pt, extF_eq, extO_eq, List.getElem?_cons_zero, List.getElem?_cons_succ, pickF_t, pickF_f, pickF_p, fldF, mmF2,
    lend_eq, List.map_cons, List.map_nil, D.plain, D.isPure, optAll, dulls_nil, dulls_v, dulls_k, dulls_o, D.dull, callVF, bldF_eq, bldSF_eq, fillD_nil, fillD_cons, splice, D.cells, D.one, List.length_cons, List.length_nil, List.all_cons, List.all_nil, Bool.and_self, Bool.and_true, Bool.true_and, List.take_succ_cons, List.take_zero, List.drop_succ_cons, List.drop_zero, List.nil_append, List.cons_append, List.append_nil, List.drop_nil, List.take_nil, List.replicate_succ, List.replicate_zero, List.flatten_cons, List.flatten_nil, Nat.reduceAdd, Nat.reduceMul, Nat.reduceSub, Nat.reduceLeDiff, Nat.zero_add, Nat.add_zero, Nat.mul_one, Nat.one_mul, Nat.zero_mul, Nat.zero_le, Int.toNat_natCast, Int.toNat_zero, Int.reduceToNat, Nat.sub_zero, Nat.le_refl,
    sets, List.cons.injEq, inR_i64, inR_u64, inR_u32, inR_i32, inR_u8, dB_True, dB_False, dB_neg, dB_beq_true, dB_beq_false, maxLen_eq, true_and, and_true, Bool.not_true, Bool.not_false, Bool.false_eq_true, Bool.not_eq_true, retQ_nrm, retQ_ret, resD_t, resT, Option.some.injEq, D.sl.injEq, D.int.injEq, D.bool.injEq, and_self, ne_eq, not_false_eq_true, not_true_eq_false, forall_const, D.flat, D.flat0, D.simple, Int.reduceLT, Int.reduceLE, Int.reduceEq, Int.reduceNeg, Int.reduceSub, Int.reduceAdd, Int.reduceMul, Int.ofNat_eq_natCast, imp_self, implies_true, false_implies, ldC_byD]
  refine ⟨fun h2 => ?_, fun h2 => ?_⟩
  · have hx : s[k]? = some (s[k]'(by omega)) := List.getElem?_eq_getElem (by omega)
    generalize s[k]'(by omega) = x at hx
    rw [drop_cons hx] at hi
    simp only [nmA] at hi
    refine ⟨⟨by omega, by omega, by simp [byD]; omega⟩, x, hx, ?_⟩
    have yes : okP k x.toNat → nm s = nmA (s.drop (k + 1)) (k + 1) := fun h => by rw [hi, decide_eq_true h]; rfl
    have no : ¬okP k x.toNat → false = nm s := fun h => by rw [hi, decide_eq_false h]; rfl
    unfold okP at yes no
    clear hi hx hnm
    generalize x.toNat = n at yes no
    have fin : (97 ≤ n ∧ n ≤ 122 ∨ 65 ≤ n ∧ n ≤ 90 ∨ k ≠ 0 ∧ (48 ≤ n ∧ n ≤ 57 ∨ n = 95)) → (-9223372036854775808 ≤ (k : Int) + 1 ∧ (k : Int) + 1 ≤ 9223372036854775807) ∧
        (∃ k1 : Nat, k1 ≤ s.length ∧ nm s = nmA (List.drop k1 s) k1 ∧ (17, D.int IntKind.i64 ((k : Int) + 1)) = (17, D.int IntKind.i64 k1)) ∧ s.length - ((k : Int) + 1).toNat < s.length - k := fun h => ⟨by omega, ⟨k + 1, by omega, yes h, rfl⟩, by omega⟩
    clear yes
    repeat' first
      | intro _
      | exact no (by omega)
      | exact fin (by omega)
      | apply And.intro
  · have : k = s.length := by omega
    subst this
    rw [hi]; simp [nmA]
end Go.Proofs

/-
  SEAT 22: relations: Check, the first one with a property, Consistent. Own work.
-/
namespace Go.Proofs
open Go Go.Pi Go.RowKit

/-- a relation -/
structure Rl where
  k : Int
  u : List UInt8
  o : List UInt8
def Rl.d (x : Rl) : List D := [.int .i64 x.k, .str x.u, .str x.o]
abbrev rls (l : List Rl) : List D := rows Rl.d l
theorem Rl.d_len (x : Rl) : x.d.length = 3 := rfl

theorem ldC_rls {l : List Rl} {k t : Nat} {N : EP} {E : Env} : ldC true 3 (List.take 3 (List.drop (k * 3) (rls l))) t N E = (∃ x, l[k]? = some x ∧ N (st1 E t (.agg x.d))) := by
  unfold ldC
  cases h : l[k]? with
  | none =>
    have hk : l.length ≤ k := by simpa using h
    have e : List.take 3 (List.drop (k * 3) (rls l)) = [] := by rw [List.drop_eq_nil_of_le (by rw [rows_length Rl.d_len]; omega)]; rfl
    rw [e]; simp [ofCells]
  | some x =>
    obtain ⟨r, e⟩ := rows_at Rl.d_len h
    have e2 : List.take 3 (List.drop (k * 3) (rls l)) = x.d := by rw [e]; rfl
    rw [e2]
    simp [ofCells, Rl.d]

theorem Tryz.c31 {f : Nat} {caps : List D} (p : Rl → Bool) (l : List Rl) (hl : l.length ≤ 1000) (h : ∀ x ∈ l, Con Tryz.prog Tryz.L f ([.agg x.d] ++ caps) (.bool (p x))) :
    Con Tryz.prog Tryz.L 31 [.sl l.length (rls l), .clo f caps] (.int .i64 (idx p l)) := by
  refine rule31 Tryz.hL rfl rfl rfl ?_
  simp only [pc31, rs31, initE, wC_seq, wC_reg, wC_cnd, wC_blk, wC_loop, wC_exit, wC_skip, wC_ret, wC_bad, GB_eq, zap_nil, zap_cons, lgF_g, lgF_b, sgOF_g, sgOF_b, sgPF_g, sgPF_b, Nat.reduceBNe, Nat.reduceLT, wC_rfn, wC_cus, asgK_nrm, bodK_nrm, wE_nil, wE_none, wE_st, wE_some, regK_eq, seqK_nrm, seqK_exit, seqK_ret, blkK_nrm, blkK_exit, blkK_ret, loopK_nrm, loopK_exit, loopK_ret,
    cndF_t, cndF_f, cndF_p, grdF_t, grdF_f, grdF_s, grdF_pt, grdF_pf, stepF, ev_v, ev_k, ev_o, oev_al, oev_int, oev_sl, oev_str, oev_agg, oev_pt, oev_bool, lk_cons, lk_nil, st1_cons, st1_nil, keepE_cons, keepE_nil, D.clean, reduceIte, Nat.reduceEqDiff,
    putF_int, putF_bool, putF_str, putF_sl, putF_agg, putF_tup, putF_pt, putF_clo, putF_err, mvF, moF, tkF, shF, ariF, ciF, catF, scF, ebF, eqF, eqOk, eqPr, enF, notF, ngF, cvF, csF, csbF, cbsF_s, cbsF_o, lenF, lenSF, ixF, iaF, PX.slot, iaAF, atV, atO, faF, ldF, ldC_ints, ldC_ints', ldC_aggc, ldC_cons, D.mem, stF, stG_ints, stG_box, bxF, mkSF, appF_oo, appF_os, ints_app, ints_snoc, ints_length, ints_nil, cut_ints, slcF_o, slcF_s, slc2_eq, slSF_eq, slS2_eq, boundF, Option.map_some, Option.map_none, mkfF_eq, capt_eq, captD_box, captD_pt, extF_eq, extO_eq, List.getElem?_cons_zero, List.getElem?_cons_succ, pickF_t, pickF_f, pickF_p, fldF, mmF2,
    lend_eq, List.map_cons, List.map_nil, D.plain, D.isPure, optAll, dulls_nil, dulls_v, dulls_k, dulls_o, D.dull, callVF, bldF_eq, bldSF_eq, fillD_nil, fillD_cons, splice, D.cells, D.one, List.length_cons, List.length_nil, List.all_cons, List.all_nil, Bool.and_self, Bool.and_true, Bool.true_and, List.take_succ_cons, List.take_zero, List.drop_succ_cons, List.drop_zero, List.nil_append, List.cons_append, List.append_nil, List.drop_nil, List.take_nil, List.replicate_succ, List.replicate_zero, List.flatten_cons, List.flatten_nil, Nat.reduceAdd, Nat.reduceMul, Nat.reduceSub, Nat.reduceLeDiff, Nat.zero_add, Nat.add_zero, Nat.mul_one, Nat.one_mul, Nat.zero_mul, Nat.zero_le, Int.toNat_natCast, Int.toNat_zero, Int.reduceToNat, Nat.sub_zero, Nat.le_refl,
    sets, List.cons.injEq, inR_i64, inR_u64, inR_u32, inR_i32, inR_u8, dB_True, dB_False, dB_neg, dB_beq_true, dB_beq_false, maxLen_eq, true_and, and_true, Bool.not_true, Bool.not_false, Bool.false_eq_true, Bool.not_eq_true, retQ_nrm, retQ_ret, resD_t, resT, Option.some.injEq, D.sl.injEq, D.int.injEq, D.bool.injEq, and_self, ne_eq, not_false_eq_true, not_true_eq_false, forall_const, D.flat, D.flat0, D.simple, Int.reduceLT, Int.reduceLE, Int.reduceEq, Int.reduceNeg, Int.reduceSub, Int.reduceAdd, Int.reduceMul, Int.ofNat_eq_natCast, imp_self, implies_true, false_implies]
  refine loopF_of (fun E => ∃ k : Nat, k ≤ l.length ∧ idx p l = idxA p (l.drop k) k ∧ E = [(0, .sl l.length (rls l)), (1, .clo f caps), (7, .int .i64 l.length), (8, .int .i64 k)])
    (fun E => match lk E 8 with | .int _ i => l.length - i.toNat | _ => 0) ⟨0, Nat.zero_le _, rfl, rfl⟩ ?_
  rintro _ ⟨k, hk, hi, rfl⟩
  simp only [initE, wC_seq, wC_reg, wC_cnd, wC_blk, wC_loop, wC_exit, wC_skip, wC_ret, wC_bad, GB_eq, zap_nil, zap_cons, lgF_g, lgF_b, sgOF_g, sgOF_b, sgPF_g, sgPF_b, Nat.reduceBNe, Nat.reduceLT, wC_rfn, wC_cus, asgK_nrm, bodK_nrm, wE_nil, wE_none, wE_st, wE_some, regK_eq, seqK_nrm, seqK_exit, seqK_ret, blkK_nrm, blkK_exit, blkK_ret, loopK_nrm, loopK_exit, loopK_ret,
    cndF_t, cndF_f, cndF_p, grdF_t, grdF_f, grdF_s, grdF_pt, grdF_pf, stepF, ev_v, ev_k, ev_o, oev_al, oev_int, oev_sl, oev_str, oev_agg, oev_pt, oev_bool, lk_cons, lk_nil, st1_cons, st1_nil, keepE_cons, keepE_nil, D.clean, reduceIte, Nat.reduceEqDiff,
    putF_int, putF_bool, putF_str, putF_sl, putF_agg, putF_tup, putF_pt, putF_clo, putF_err, mvF, moF, tkF, shF, ariF, ciF, catF, scF, ebF, eqF, eqOk, eqPr, enF, notF, ngF, cvF, csF, csbF, cbsF_s, cbsF_o, lenF, lenSF, ixF, iaF, PX.slot, iaAF, atV, atO, faF, ldF, ldC_ints, ldC_ints', ldC_aggc, ldC_cons, D.mem, stF, stG_ints, stG_box, bxF, mkSF, appF_oo, appF_os, ints_app, ints_snoc, ints_length, ints_nil, cut_ints, slcF_o, slcF_s, slc2_eq, slSF_eq, slS2_eq, boundF, Option.map_some, Option.map_none, mkfF_eq, capt_eq, captD_box, captD_pt, extF_eq, extO_eq, List.getElem?_cons_zero, List.getElem?_cons_succ, pickF_t, pickF_f, pickF_p, fldF, mmF2,
    lend_eq, List.map_cons, List.map_nil, D.plain, D.isPure, optAll, dulls_nil, dulls_v, dulls_k, dulls_o, D.dull, callVF, bldF_eq, bldSF_eq, fillD_nil, fillD_cons, splice, D.cells, D.one, List.length_cons, List.length_nil, List.all_cons, List.all_nil, Bool.and_self, Bool.and_true, Bool.true_and, List.take_succ_cons, List.take_zero, List.drop_succ_cons, List.drop_zero, List.nil_append, List.cons_append, List.append_nil, List.drop_nil, List.take_nil, List.replicate_succ, List.replicate_zero, List.flatten_cons, List.flatten_nil, Nat.reduceAdd, Nat.reduceMul, Nat.reduceSub, Nat.reduceLeDiff, Nat.zero_add, Nat.add_zero, Nat.mul_one, Nat.one_mul, Nat.zero_mul, Nat.zero_le, Int.toNat_natCast, Int.toNat_zero, Int.reduceToNat, Nat.sub_zero, Nat.le_refl,
    sets, List.cons.injEq, inR_i64, inR_u64, inR_u32, inR_i32, inR_u8, dB_True, dB_False, dB_neg, dB_beq_true, dB_beq_false, maxLen_eq, true_and, and_true, Bool.not_true, Bool.not_false, Bool.false_eq_true, Bool.not_eq_true, retQ_nrm, retQ_ret, resD_t, resT, Option.some.injEq, D.sl.injEq, D.int.injEq, D.bool.injEq, and_self, ne_eq, not_false_eq_true, not_true_eq_false, forall_const, D.flat, D.flat0, D.simple, Int.reduceLT, Int.reduceLE, Int.reduceEq, Int.reduceNeg, Int.reduceSub, Int.reduceAdd, Int.reduceMul, Int.ofNat_eq_natCast, imp_self, implies_true, false_implies, ldC_rls]
  refine ⟨fun h1 => ?_, fun h1 => ?_⟩
  · have hx : l[k]? = some (l[k]'(by omega)) := List.getElem?_eq_getElem (by omega)
    generalize l[k]'(by omega) = x at hx
    have hd := drop_cons hx
    refine ⟨⟨by omega, by rw [rows_length Rl.d_len]; omega⟩, x, hx, ?_⟩
    refine callF_of (h x (List.mem_of_getElem? hx)) ?_
    simp only [initE, wC_seq, wC_reg, wC_cnd, wC_blk, wC_loop, wC_exit, wC_skip, wC_ret, wC_bad, GB_eq, zap_nil, zap_cons, lgF_g, lgF_b, sgOF_g, sgOF_b, sgPF_g, sgPF_b, Nat.reduceBNe, Nat.reduceLT, wC_rfn, wC_cus, asgK_nrm, bodK_nrm, wE_nil, wE_none, wE_st, wE_some, regK_eq, seqK_nrm, seqK_exit, seqK_ret, blkK_nrm, blkK_exit, blkK_ret, loopK_nrm, loopK_exit, loopK_ret,
    cndF_t, cndF_f, cndF_p, grdF_t, grdF_f, grdF_s, grdF_pt, grdF_pf, stepF, ev_v, ev_k, ev_o, oev_al, oev_int, oev_sl, oev_str, oev_agg, oev_pt, oev_bool, lk_cons, lk_nil, st1_cons, st1_nil, keepE_cons, keepE_nil, D.clean, reduceIte, Nat.reduceEqDiff,
    putF_int, putF_bool, putF_str, putF_sl, putF_agg, putF_tup, putF_pt, putF_clo, putF_err, mvF, moF, tkF, shF, ariF, ciF, catF, scF, ebF, eqF, eqOk, eqPr, enF, notF, ngF, cvF, csF, csbF, cbsF_s, cbsF_o, lenF, lenSF, ixF, iaF, PX.slot, iaAF, atV, atO, faF, ldF, ldC_ints, ldC_ints', ldC_aggc, ldC_cons, D.mem, stF, stG_ints, stG_box, bxF, mkSF, appF_oo, appF_os, ints_app, ints_snoc, ints_length, ints_nil, cut_ints, slcF_o, slcF_s, slc2_eq, slSF_eq, slS2_eq, boundF, Option.map_some, Option.map_none, mkfF_eq, capt_eq, captD_box, captD_pt, extF_eq, extO_eq, List.getElem?_cons_zero, List.getElem?_cons_succ, pickF_t, pickF_f, pickF_p, fldF, mmF2,
    lend_eq, List.map_cons, List.map_nil, D.plain, D.isPure, optAll, dulls_nil, dulls_v, dulls_k, dulls_o, D.dull, callVF, bldF_eq, bldSF_eq, fillD_nil, fillD_cons, splice, D.cells, D.one, List.length_cons, List.length_nil, List.all_cons, List.all_nil, Bool.and_self, Bool.and_true, Bool.true_and, List.take_succ_cons, List.take_zero, List.drop_succ_cons, List.drop_zero, List.nil_append, List.cons_append, List.append_nil, List.drop_nil, List.take_nil, List.replicate_succ, List.replicate_zero, List.flatten_cons, List.flatten_nil, Nat.reduceAdd, Nat.reduceMul, Nat.reduceSub, Nat.reduceLeDiff, Nat.zero_add, Nat.add_zero, Nat.mul_one, Nat.one_mul, Nat.zero_mul, Nat.zero_le, Int.toNat_natCast, Int.toNat_zero, Int.reduceToNat, Nat.sub_zero, Nat.le_refl,
    sets, List.cons.injEq, inR_i64, inR_u64, inR_u32, inR_i32, inR_u8, dB_True, dB_False, dB_neg, dB_beq_true, dB_beq_false, maxLen_eq, true_and, and_true, Bool.not_true, Bool.not_false, Bool.false_eq_true, Bool.not_eq_true, retQ_nrm, retQ_ret, resD_t, resT, Option.some.injEq, D.sl.injEq, D.int.injEq, D.bool.injEq, and_self, ne_eq, not_false_eq_true, not_true_eq_false, forall_const, D.flat, D.flat0, D.simple, Int.reduceLT, Int.reduceLE, Int.reduceEq, Int.reduceNeg, Int.reduceSub, Int.reduceAdd, Int.reduceMul, Int.ofNat_eq_natCast, imp_self, implies_true, false_implies]
    rw [hd] at hi
    simp only [idxA] at hi
    cases hp : p x with
    | true =>
      simp only [initE, wC_seq, wC_reg, wC_cnd, wC_blk, wC_loop, wC_exit, wC_skip, wC_ret, wC_bad, GB_eq, zap_nil, zap_cons, lgF_g, lgF_b, sgOF_g, sgOF_b, sgPF_g, sgPF_b, Nat.reduceBNe, Nat.reduceLT, wC_rfn, wC_cus, asgK_nrm, bodK_nrm, wE_nil, wE_none, wE_st, wE_some, regK_eq, seqK_nrm, seqK_exit, seqK_ret, blkK_nrm, blkK_exit, blkK_ret, loopK_nrm, loopK_exit, loopK_ret,
    cndF_t, cndF_f, cndF_p, grdF_t, grdF_f, grdF_s, grdF_pt, grdF_pf, stepF, ev_v, ev_k, ev_o, oev_al, oev_int, oev_sl, oev_str, oev_agg, oev_pt, oev_bool, lk_cons, lk_nil, st1_cons, st1_nil, keepE_cons, keepE_nil, D.clean, reduceIte, Nat.reduceEqDiff,
    putF_int, putF_bool, putF_str, putF_sl, putF_agg, putF_tup, putF_pt, putF_clo, putF_err, mvF, moF, tkF, shF, ariF, ciF, catF, scF, ebF, eqF, eqOk, eqPr, enF, notF, ngF, cvF, csF, csbF, cbsF_s, cbsF_o, lenF, lenSF, ixF, iaF, PX.slot, iaAF, atV, atO, faF, ldF, ldC_ints, ldC_ints', ldC_aggc, ldC_cons, D.mem, stF, stG_ints, stG_box, bxF, mkSF, appF_oo, appF_os, ints_app, ints_snoc, ints_length, ints_nil, cut_ints, slcF_o, slcF_s, slc2_eq, slSF_eq, slS2_eq, boundF, Option.map_some, Option.map_none, mkfF_eq, capt_eq, captD_box, captD_pt, extF_eq, extO_eq, List.getElem?_cons_zero, List.getElem?_cons_succ, pickF_t, pickF_f, pickF_p, fldF, mmF2,
    lend_eq, List.map_cons, List.map_nil, D.plain, D.isPure, optAll, dulls_nil, dulls_v, dulls_k, dulls_o, D.dull, callVF, bldF_eq, bldSF_eq, fillD_nil, fillD_cons, splice, D.cells, D.one, List.length_cons, List.length_nil, List.all_cons, List.all_nil, Bool.and_self, Bool.and_true, Bool.true_and, List.take_succ_cons, List.take_zero, List.drop_succ_cons, List.drop_zero, List.nil_append, List.cons_append, List.append_nil, List.drop_nil, List.take_nil, List.replicate_succ, List.replicate_zero, List.flatten_cons, List.flatten_nil, Nat.reduceAdd, Nat.reduceMul, Nat.reduceSub, Nat.reduceLeDiff, Nat.zero_add, Nat.add_zero, Nat.mul_one, Nat.one_mul, Nat.zero_mul, Nat.zero_le, Int.toNat_natCast, Int.toNat_zero, Int.reduceToNat, Nat.sub_zero, Nat.le_refl,
    sets, List.cons.injEq, inR_i64, inR_u64, inR_u32, inR_i32, inR_u8, dB_True, dB_False, dB_neg, dB_beq_true, dB_beq_false, maxLen_eq, true_and, and_true, Bool.not_true, Bool.not_false, Bool.false_eq_true, Bool.not_eq_true, retQ_nrm, retQ_ret, resD_t, resT, Option.some.injEq, D.sl.injEq, D.int.injEq, D.bool.injEq, and_self, ne_eq, not_false_eq_true, not_true_eq_false, forall_const, D.flat, D.flat0, D.simple, Int.reduceLT, Int.reduceLE, Int.reduceEq, Int.reduceNeg, Int.reduceSub, Int.reduceAdd, Int.reduceMul, Int.ofNat_eq_natCast, imp_self, implies_true, false_implies]
      rw [hi, hp]; rfl
    | false =>
      simp only [initE, wC_seq, wC_reg, wC_cnd, wC_blk, wC_loop, wC_exit, wC_skip, wC_ret, wC_bad, GB_eq, zap_nil, zap_cons, lgF_g, lgF_b, sgOF_g, sgOF_b, sgPF_g, sgPF_b, Nat.reduceBNe, Nat.reduceLT, wC_rfn, wC_cus, asgK_nrm, bodK_nrm, wE_nil, wE_none, wE_st, wE_some, regK_eq, seqK_nrm, seqK_exit, seqK_ret, blkK_nrm, blkK_exit, blkK_ret, loopK_nrm, loopK_exit, loopK_ret,
    cndF_t, cndF_f, cndF_p, grdF_t, grdF_f, grdF_s, grdF_pt, grdF_pf, stepF, ev_v, ev_k, ev_o, oev_al, oev_int, oev_sl, oev_str, oev_agg, oev_pt, oev_bool, lk_cons, lk_nil, st1_cons, st1_nil, keepE_cons, keepE_nil, D.clean, reduceIte, Nat.reduceEqDiff,
    putF_int, putF_bool, putF_str, putF_sl, putF_agg, putF_tup, putF_pt, putF_clo, putF_err, mvF, moF, tkF, shF, ariF, ciF, catF, scF, ebF, eqF, eqOk, eqPr, enF, notF, ngF, cvF, csF, csbF, cbsF_s, cbsF_o, lenF, lenSF, ixF, iaF, PX.slot, iaAF, atV, atO, faF, ldF, ldC_ints, ldC_ints', ldC_aggc, ldC_cons, D.mem, stF, stG_ints, stG_box, bxF, mkSF, appF_oo, appF_os, ints_app, ints_snoc, ints_length, ints_nil, cut_ints, slcF_o, slcF_s, slc2_eq, slSF_eq, slS2_eq, boundF, Option.map_some, Option.map_none, mkfF_eq, capt_eq, captD_box, captD_pt, extF_eq, extO_eq, List.getElem?_cons_zero, List.getElem?_cons_succ, pickF_t, pickF_f, pickF_p, fldF, mmF2,
    lend_eq, List.map_cons, List.map_nil, D.plain, D.isPure, optAll, dulls_nil, dulls_v, dulls_k, dulls_o, D.dull, callVF, bldF_eq, bldSF_eq, fillD_nil, fillD_cons, splice, D.cells, D.one, List.length_cons, List.length_nil, List.all_cons, List.all_nil, Bool.and_self, Bool.and_true, Bool.true_and, List.take_succ_cons, List.take_zero, List.drop_succ_cons, List.drop_zero, List.nil_append, List.cons_append, List.append_nil, List.drop_nil, List.take_nil, List.replicate_succ, List.replicate_zero, List.flatten_cons, List.flatten_nil, Nat.reduceAdd, Nat.reduceMul, Nat.reduceSub, Nat.reduceLeDiff, Nat.zero_add, Nat.add_zero, Nat.mul_one, Nat.one_mul, Nat.zero_mul, Nat.zero_le, Int.toNat_natCast, Int.toNat_zero, Int.reduceToNat, Nat.sub_zero, Nat.le_refl,
    sets, List.cons.injEq, inR_i64, inR_u64, inR_u32, inR_i32, inR_u8, dB_True, dB_False, dB_neg, dB_beq_true, dB_beq_false, maxLen_eq, true_and, and_true, Bool.not_true, Bool.not_false, Bool.false_eq_true, Bool.not_eq_true, retQ_nrm, retQ_ret, resD_t, resT, Option.some.injEq, D.sl.injEq, D.int.injEq, D.bool.injEq, and_self, ne_eq, not_false_eq_true, not_true_eq_false, forall_const, D.flat, D.flat0, D.simple, Int.reduceLT, Int.reduceLE, Int.reduceEq, Int.reduceNeg, Int.reduceSub, Int.reduceAdd, Int.reduceMul, Int.ofNat_eq_natCast, imp_self, implies_true, false_implies]
      have hi2 : idx p l = idxA p (l.drop (k + 1)) (k + 1) := by rw [hi, hp]; rfl
      refine ⟨by omega, ⟨k + 1, by omega, hi2, rfl⟩, by omega⟩
  · have : k = l.length := by omega
    subst this
    rw [hi]; simp [idxA]

theorem Tryz.c27 {f : Nat} {caps : List D} (p : Rl → Bool) (l : List Rl) (hl : l.length ≤ 1000) (h : ∀ x ∈ l, Con Tryz.prog Tryz.L f ([.agg x.d] ++ caps) (.bool (p x))) :
    Con Tryz.prog Tryz.L 27 [.sl l.length (rls l), .clo f caps] (.bool (dB (0 ≤ idx p l))) := by
  refine rule27 Tryz.hL rfl rfl rfl ?_
  simp only [pc27, rs27, initE, wC_seq, wC_reg, wC_cnd, wC_blk, wC_loop, wC_exit, wC_skip, wC_ret, wC_bad, GB_eq, zap_nil, zap_cons, lgF_g, lgF_b, sgOF_g, sgOF_b, sgPF_g, sgPF_b, Nat.reduceBNe, Nat.reduceLT, wC_rfn, wC_cus, asgK_nrm, bodK_nrm, wE_nil, wE_none, wE_st, wE_some, regK_eq, seqK_nrm, seqK_exit, seqK_ret, blkK_nrm, blkK_exit, blkK_ret, loopK_nrm, loopK_exit, loopK_ret,
    cndF_t, cndF_f, cndF_p, grdF_t, grdF_f, grdF_s, grdF_pt, grdF_pf, stepF, ev_v, ev_k, ev_o, oev_al, oev_int, oev_sl, oev_str, oev_agg, oev_pt, oev_bool, lk_cons, lk_nil, st1_cons, st1_nil, keepE_cons, keepE_nil, D.clean, reduceIte, Nat.reduceEqDiff,
    putF_int, putF_bool, putF_str, putF_sl, putF_agg, putF_tup, putF_pt, putF_clo, putF_err, mvF, moF, tkF, shF, ariF, ciF, catF, scF, ebF, eqF, eqOk, eqPr, enF, notF, ngF, cvF, csF, csbF, cbsF_s, cbsF_o, lenF, lenSF, ixF, iaF, PX.slot, iaAF, atV, atO, faF, ldF, ldC_ints, ldC_ints', ldC_aggc, ldC_cons, D.mem, stF, stG_ints, stG_box, bxF, mkSF, appF_oo, appF_os, ints_app, ints_snoc, ints_length, ints_nil, cut_ints, slcF_o, slcF_s, slc2_eq, slSF_eq, slS2_eq, boundF, Option.map_some, Option.map_none, mkfF_eq, capt_eq, captD_box, captD_pt, extF_eq, extO_eq, List.getElem?_cons_zero, List.getElem?_cons_succ, pickF_t, pickF_f, pickF_p, fldF, mmF2,
    lend_eq, List.map_cons, List.map_nil, D.plain, D.isPure, optAll, dulls_nil, dulls_v, dulls_k, dulls_o, D.dull, callVF, bldF_eq, bldSF_eq, fillD_nil, fillD_cons, splice, D.cells, D.one, List.length_cons, List.length_nil, List.all_cons, List.all_nil, Bool.and_self, Bool.and_true, Bool.true_and, List.take_succ_cons, List.take_zero, List.drop_succ_cons, List.drop_zero, List.nil_append, List.cons_append, List.append_nil, List.drop_nil, List.take_nil, List.replicate_succ, List.replicate_zero, List.flatten_cons, List.flatten_nil, Nat.reduceAdd, Nat.reduceMul, Nat.reduceSub, Nat.reduceLeDiff, Nat.zero_add, Nat.add_zero, Nat.mul_one, Nat.one_mul, Nat.zero_mul, Nat.zero_le, Int.toNat_natCast, Int.toNat_zero, Int.reduceToNat, Nat.sub_zero, Nat.le_refl,
    sets, List.cons.injEq, inR_i64, inR_u64, inR_u32, inR_i32, inR_u8, dB_True, dB_False, dB_neg, dB_beq_true, dB_beq_false, maxLen_eq, true_and, and_true, Bool.not_true, Bool.not_false, Bool.false_eq_true, Bool.not_eq_true, retQ_nrm, retQ_ret, resD_t, resT, Option.some.injEq, D.sl.injEq, D.int.injEq, D.bool.injEq, and_self, ne_eq, not_false_eq_true, not_true_eq_false, forall_const, D.flat, D.flat0, D.simple, Int.reduceLT, Int.reduceLE, Int.reduceEq, Int.reduceNeg, Int.reduceSub, Int.reduceAdd, Int.reduceMul, Int.ofNat_eq_natCast, imp_self, implies_true, false_implies]
  refine callF_of (Tryz.c31 p l hl h) ?_
  simp only [initE, wC_seq, wC_reg, wC_cnd, wC_blk, wC_loop, wC_exit, wC_skip, wC_ret, wC_bad, GB_eq, zap_nil, zap_cons, lgF_g, lgF_b, sgOF_g, sgOF_b, sgPF_g, sgPF_b, Nat.reduceBNe, Nat.reduceLT, wC_rfn, wC_cus, asgK_nrm, bodK_nrm, wE_nil, wE_none, wE_st, wE_some, regK_eq, seqK_nrm, seqK_exit, seqK_ret, blkK_nrm, blkK_exit, blkK_ret, loopK_nrm, loopK_exit, loopK_ret,
    cndF_t, cndF_f, cndF_p, grdF_t, grdF_f, grdF_s, grdF_pt, grdF_pf, stepF, ev_v, ev_k, ev_o, oev_al, oev_int, oev_sl, oev_str, oev_agg, oev_pt, oev_bool, lk_cons, lk_nil, st1_cons, st1_nil, keepE_cons, keepE_nil, D.clean, reduceIte, Nat.reduceEqDiff,
    putF_int, putF_bool, putF_str, putF_sl, putF_agg, putF_tup, putF_pt, putF_clo, putF_err, mvF, moF, tkF, shF, ariF, ciF, catF, scF, ebF, eqF, eqOk, eqPr, enF, notF, ngF, cvF, csF, csbF, cbsF_s, cbsF_o, lenF, lenSF, ixF, iaF, PX.slot, iaAF, atV, atO, faF, ldF, ldC_ints, ldC_ints', ldC_aggc, ldC_cons, D.mem, stF, stG_ints, stG_box, bxF, mkSF, appF_oo, appF_os, ints_app, ints_snoc, ints_length, ints_nil, cut_ints, slcF_o, slcF_s, slc2_eq, slSF_eq, slS2_eq, boundF, Option.map_some, Option.map_none, mkfF_eq, capt_eq, captD_box, captD_pt, extF_eq, extO_eq, List.getElem?_cons_zero, List.getElem?_cons_succ, pickF_t, pickF_f, pickF_p, fldF, mmF2,
    lend_eq, List.map_cons, List.map_nil, D.plain, D.isPure, optAll, dulls_nil, dulls_v, dulls_k, dulls_o, D.dull, callVF, bldF_eq, bldSF_eq, fillD_nil, fillD_cons, splice, D.cells, D.one, List.length_cons, List.length_nil, List.all_cons, List.all_nil, Bool.and_self, Bool.and_true, Bool.true_and, List.take_succ_cons, List.take_zero, List.drop_succ_cons, List.drop_zero, List.nil_append, List.cons_append, List.append_nil, List.drop_nil, List.take_nil, List.replicate_succ, List.replicate_zero, List.flatten_cons, List.flatten_nil, Nat.reduceAdd, Nat.reduceMul, Nat.reduceSub, Nat.reduceLeDiff, Nat.zero_add, Nat.add_zero, Nat.mul_one, Nat.one_mul, Nat.zero_mul, Nat.zero_le, Int.toNat_natCast, Int.toNat_zero, Int.reduceToNat, Nat.sub_zero, Nat.le_refl,
    sets, List.cons.injEq, inR_i64, inR_u64, inR_u32, inR_i32, inR_u8, dB_True, dB_False, dB_neg, dB_beq_true, dB_beq_false, maxLen_eq, true_and, and_true, Bool.not_true, Bool.not_false, Bool.false_eq_true, Bool.not_eq_true, retQ_nrm, retQ_ret, resD_t, resT, Option.some.injEq, D.sl.injEq, D.int.injEq, D.bool.injEq, and_self, ne_eq, not_false_eq_true, not_true_eq_false, forall_const, D.flat, D.flat0, D.simple, Int.reduceLT, Int.reduceLE, Int.reduceEq, Int.reduceNeg, Int.reduceSub, Int.reduceAdd, Int.reduceMul, Int.ofNat_eq_natCast, imp_self, implies_true, false_implies]

def Rl.long (x : Rl) : Bool := decide (40 < x.u.length) || decide (40 < x.o.length)
theorem Tryz.c28 (x : Rl) : Con Tryz.prog Tryz.L 28 ([.agg x.d] ++ []) (.bool x.long) := by
  refine rule28 Tryz.hL rfl rfl rfl ?_
  simp only [pc28, rs28, Rl.d, initE, wC_seq, wC_reg, wC_cnd, wC_blk, wC_loop, wC_exit, wC_skip, wC_ret, wC_bad, GB_eq, zap_nil, zap_cons, lgF_g, lgF_b, sgOF_g, sgOF_b, sgPF_g, sgPF_b, Nat.reduceBNe, Nat.reduceLT, wC_rfn, wC_cus, asgK_nrm, bodK_nrm, wE_nil, wE_none, wE_st, wE_some, regK_eq, seqK_nrm, seqK_exit, seqK_ret, blkK_nrm, blkK_exit, blkK_ret, loopK_nrm, loopK_exit, loopK_ret,
    cndF_t, cndF_f, cndF_p, grdF_t, grdF_f, grdF_s, grdF_pt, grdF_pf, stepF, ev_v, ev_k, ev_o, oev_al, oev_int, oev_sl, oev_str, oev_agg, oev_pt, oev_bool, lk_cons, lk_nil, st1_cons, st1_nil, keepE_cons, keepE_nil, D.clean, reduceIte, Nat.reduceEqDiff,
    putF_int, putF_bool, putF_str, putF_sl, putF_agg, putF_tup, putF_pt, putF_clo, putF_err, mvF, moF, tkF, shF, ariF, ciF, catF, scF, ebF, eqF, eqOk, eqPr, enF, notF, ngF, cvF, csF, csbF, cbsF_s, cbsF_o, lenF, lenSF, ixF, iaF, PX.slot, iaAF, atV, atO, faF, ldF, ldC_ints, ldC_ints', ldC_aggc, ldC_cons, D.mem, stF, stG_ints, stG_box, bxF, mkSF, appF_oo, appF_os, ints_app, ints_snoc, ints_length, ints_nil, cut_ints, slcF_o, slcF_s, slc2_eq, slSF_eq, slS2_eq, boundF, Option.map_some, Option.map_none, mkfF_eq, capt_eq, captD_box, captD_pt, extF_eq, extO_eq, List.getElem?_cons_zero, List.getElem?_cons_succ, pickF_t, pickF_f, pickF_p, fldF, mmF2,
    lend_eq, List.map_cons, List.map_nil, D.plain, D.isPure, optAll, dulls_nil, dulls_v, dulls_k, dulls_o, D.dull, callVF, bldF_eq, bldSF_eq, fillD_nil, fillD_cons, splice, D.cells, D.one, List.length_cons, List.length_nil, List.all_cons, List.all_nil, Bool.and_self, Bool.and_true, Bool.true_and, List.take_succ_cons, List.take_zero, List.drop_succ_cons, List.drop_zero, List.nil_append, List.cons_append, List.append_nil, List.drop_nil, List.take_nil, List.replicate_succ, List.replicate_zero, List.flatten_cons, List.flatten_nil, Nat.reduceAdd, Nat.reduceMul, Nat.reduceSub, Nat.reduceLeDiff, Nat.zero_add, Nat.add_zero, Nat.mul_one, Nat.one_mul, Nat.zero_mul, Nat.zero_le, Int.toNat_natCast, Int.toNat_zero, Int.reduceToNat, Nat.sub_zero, Nat.le_refl,
    sets, List.cons.injEq, inR_i64, inR_u64, inR_u32, inR_i32, inR_u8, dB_True, dB_False, dB_neg, dB_beq_true, dB_beq_false, maxLen_eq, true_and, and_true, Bool.not_true, Bool.not_false, Bool.false_eq_true, Bool.not_eq_true, retQ_nrm, retQ_ret, resD_t, resT, Option.some.injEq, D.sl.injEq, D.int.injEq, D.bool.injEq, and_self, ne_eq, not_false_eq_true, not_true_eq_false, forall_const, D.flat, D.flat0, D.simple, Int.reduceLT, Int.reduceLE, Int.reduceEq, Int.reduceNeg, Int.reduceSub, Int.reduceAdd, Int.reduceMul, Int.ofNat_eq_natCast, imp_self, implies_true, false_implies]
  refine ⟨fun h => ?_, fun h => ?_⟩
  · rw [Bool.eq_iff_iff, dB_iff]; simp [Rl.long]; omega
  · simp [Rl.long]; omega

/-- relation.Check -/
def Rl.chk (x : Rl) : Int := if x.k < 1 ∨ 4 < x.k then 12 else if nm x.u = false ∨ nm x.o = false then 8 else if x.u = x.o then 14 else 0
theorem Tryz.c30 (x : Rl) : Con Tryz.prog Tryz.L 30 [.agg x.d] (.int .i64 x.chk) := by
  refine rule30 Tryz.hL rfl rfl rfl ?_
  simp only [pc30, rs30, Rl.d, initE, wC_seq, wC_reg, wC_cnd, wC_blk, wC_loop, wC_exit, wC_skip, wC_ret, wC_bad, GB_eq, zap_nil, zap_cons, lgF_g, lgF_b, sgOF_g, sgOF_b, sgPF_g, sgPF_b, Nat.reduceBNe, Nat.reduceLT, wC_rfn, wC_cus, asgK_nrm, bodK_nrm, wE_nil, wE_none, wE_st, wE_some, regK_eq, seqK_nrm, seqK_exit, seqK_ret, blkK_nrm, blkK_exit, blkK_ret, loopK_nrm, loopK_exit, loopK_ret,
    cndF_t, cndF_f, cndF_p, grdF_t, grdF_f, grdF_s, grdF_pt, grdF_pf, stepF, ev_v, ev_k, ev_o, oev_al, oev_int, oev_sl, oev_str, oev_agg, oev_pt, oev_bool, lk_cons, lk_nil, st1_cons, st1_nil, keepE_cons, keepE_nil, D.clean, reduceIte, Nat.reduceEqDiff,
    putF_int, putF_bool, putF_str, putF_sl, putF_agg, putF_tup, putF_pt, putF_clo, putF_err, mvF, moF, tkF, shF, ariF, ciF, catF, scF, ebF, eqF, eqOk, eqPr, enF, notF, ngF, cvF, csF, csbF, cbsF_s, cbsF_o, lenF, lenSF, ixF, iaF, PX.slot, iaAF, atV, atO, faF, ldF, ldC_ints, ldC_ints', ldC_aggc, ldC_cons, D.mem, stF, stG_ints, stG_box, bxF, mkSF, appF_oo, appF_os, ints_app, ints_snoc, ints_length, ints_nil, cut_ints, slcF_o, slcF_s, slc2_eq, slSF_eq, slS2_eq, boundF, Option.map_some, Option.map_none, mkfF_eq, capt_eq, captD_box, captD_pt, extF_eq, extO_eq, List.getElem?_cons_zero, List.getElem?_cons_succ, pickF_t, pickF_f, pickF_p, fldF, mmF2,
    lend_eq, List.map_cons, List.map_nil, D.plain, D.isPure, optAll, dulls_nil, dulls_v, dulls_k, dulls_o, D.dull, callVF, bldF_eq, bldSF_eq, fillD_nil, fillD_cons, splice, D.cells, D.one, List.length_cons, List.length_nil, List.all_cons, List.all_nil, Bool.and_self, Bool.and_true, Bool.true_and, List.take_succ_cons, List.take_zero, List.drop_succ_cons, List.drop_zero, List.nil_append, List.cons_append, List.append_nil, List.drop_nil, List.take_nil, List.replicate_succ, List.replicate_zero, List.flatten_cons, List.flatten_nil, Nat.reduceAdd, Nat.reduceMul, Nat.reduceSub, Nat.reduceLeDiff, Nat.zero_add, Nat.add_zero, Nat.mul_one, Nat.one_mul, Nat.zero_mul, Nat.zero_le, Int.toNat_natCast, Int.toNat_zero, Int.reduceToNat, Nat.sub_zero, Nat.le_refl,
    sets, List.cons.injEq, inR_i64, inR_u64, inR_u32, inR_i32, inR_u8, dB_True, dB_False, dB_neg, dB_beq_true, dB_beq_false, maxLen_eq, true_and, and_true, Bool.not_true, Bool.not_false, Bool.false_eq_true, Bool.not_eq_true, retQ_nrm, retQ_ret, resD_t, resT, Option.some.injEq, D.sl.injEq, D.int.injEq, D.bool.injEq, and_self, ne_eq, not_false_eq_true, not_true_eq_false, forall_const, D.flat, D.flat0, D.simple, Int.reduceLT, Int.reduceLE, Int.reduceEq, Int.reduceNeg, Int.reduceSub, Int.reduceAdd, Int.reduceMul, Int.ofNat_eq_natCast, imp_self, implies_true, false_implies]
  refine ⟨fun h1 => ⟨fun h2 => by rw [Rl.chk, if_pos (Or.inr h2)], fun h2 => ?_⟩, fun h1 => by rw [Rl.chk, if_pos (Or.inl h1)]⟩
  have e0 : x.chk = if nm x.u = false ∨ nm x.o = false then 8 else if x.u = x.o then 14 else 0 := by rw [Rl.chk, if_neg (by omega)]
  refine callF_of (Tryz.c68g x.u) ?_
  cases hu : nm x.u with
  | false =>
    simp only [initE, wC_seq, wC_reg, wC_cnd, wC_blk, wC_loop, wC_exit, wC_skip, wC_ret, wC_bad, GB_eq, zap_nil, zap_cons, lgF_g, lgF_b, sgOF_g, sgOF_b, sgPF_g, sgPF_b, Nat.reduceBNe, Nat.reduceLT, wC_rfn, wC_cus, asgK_nrm, bodK_nrm, wE_nil, wE_none, wE_st, wE_some, regK_eq, seqK_nrm, seqK_exit, seqK_ret, blkK_nrm, blkK_exit, blkK_ret, loopK_nrm, loopK_exit, loopK_ret,
    cndF_t, cndF_f, cndF_p, grdF_t, grdF_f, grdF_s, grdF_pt, grdF_pf, stepF, ev_v, ev_k, ev_o, oev_al, oev_int, oev_sl, oev_str, oev_agg, oev_pt, oev_bool, lk_cons, lk_nil, st1_cons, st1_nil, keepE_cons, keepE_nil, D.clean, reduceIte, Nat.reduceEqDiff,
    putF_int, putF_bool, putF_str, putF_sl, putF_agg, putF_tup, putF_pt, putF_clo, putF_err, mvF, moF, tkF, shF, ariF, ciF, catF, scF, ebF, eqF, eqOk, eqPr, enF, notF, ngF, cvF, csF, csbF, cbsF_s, cbsF_o, lenF, lenSF, ixF, iaF, PX.slot, iaAF, atV, atO, faF, ldF, ldC_ints, ldC_ints', ldC_aggc, ldC_cons, D.mem, stF, stG_ints, stG_box, bxF, mkSF, appF_oo, appF_os, ints_app, ints_snoc, ints_length, ints_nil, cut_ints, slcF_o, slcF_s, slc2_eq, slSF_eq, slS2_eq, boundF, Option.map_some, Option.map_none, mkfF_eq, capt_eq, captD_box, captD_pt, extF_eq, extO_eq, List.getElem?_cons_zero, List.getElem?_cons_succ, pickF_t, pickF_f, pickF_p, fldF, mmF2,
    lend_eq, List.map_cons, List.map_nil, D.plain, D.isPure, optAll, dulls_nil, dulls_v, dulls_k, dulls_o, D.dull, callVF, bldF_eq, bldSF_eq, fillD_nil, fillD_cons, splice, D.cells, D.one, List.length_cons, List.length_nil, List.all_cons, List.all_nil, Bool.and_self, Bool.and_true, Bool.true_and, List.take_succ_cons, List.take_zero, List.drop_succ_cons, List.drop_zero, List.nil_append, List.cons_append, List.append_nil, List.drop_nil, List.take_nil, List.replicate_succ, List.replicate_zero, List.flatten_cons, List.flatten_nil, Nat.reduceAdd, Nat.reduceMul, Nat.reduceSub, Nat.reduceLeDiff, Nat.zero_add, Nat.add_zero, Nat.mul_one, Nat.one_mul, Nat.zero_mul, Nat.zero_le, Int.toNat_natCast, Int.toNat_zero, Int.reduceToNat, Nat.sub_zero, Nat.le_refl,
    sets, List.cons.injEq, inR_i64, inR_u64, inR_u32, inR_i32, inR_u8, dB_True, dB_False, dB_neg, dB_beq_true, dB_beq_false, maxLen_eq, true_and, and_true, Bool.not_true, Bool.not_false, Bool.false_eq_true, Bool.not_eq_true, retQ_nrm, retQ_ret, resD_t, resT, Option.some.injEq, D.sl.injEq, D.int.injEq, D.bool.injEq, and_self, ne_eq, not_false_eq_true, not_true_eq_false, forall_const, D.flat, D.flat0, D.simple, Int.reduceLT, Int.reduceLE, Int.reduceEq, Int.reduceNeg, Int.reduceSub, Int.reduceAdd, Int.reduceMul, Int.ofNat_eq_natCast, imp_self, implies_true, false_implies]
    rw [e0, if_pos (Or.inl hu)]
  | true =>
    simp only [initE, wC_seq, wC_reg, wC_cnd, wC_blk, wC_loop, wC_exit, wC_skip, wC_ret, wC_bad, GB_eq, zap_nil, zap_cons, lgF_g, lgF_b, sgOF_g, sgOF_b, sgPF_g, sgPF_b, Nat.reduceBNe, Nat.reduceLT, wC_rfn, wC_cus, asgK_nrm, bodK_nrm, wE_nil, wE_none, wE_st, wE_some, regK_eq, seqK_nrm, seqK_exit, seqK_ret, blkK_nrm, blkK_exit, blkK_ret, loopK_nrm, loopK_exit, loopK_ret,
    cndF_t, cndF_f, cndF_p, grdF_t, grdF_f, grdF_s, grdF_pt, grdF_pf, stepF, ev_v, ev_k, ev_o, oev_al, oev_int, oev_sl, oev_str, oev_agg, oev_pt, oev_bool, lk_cons, lk_nil, st1_cons, st1_nil, keepE_cons, keepE_nil, D.clean, reduceIte, Nat.reduceEqDiff,
    putF_int, putF_bool, putF_str, putF_sl, putF_agg, putF_tup, putF_pt, putF_clo, putF_err, mvF, moF, tkF, shF, ariF, ciF, catF, scF, ebF, eqF, eqOk, eqPr, enF, notF, ngF, cvF, csF, csbF, cbsF_s, cbsF_o, lenF, lenSF, ixF, iaF, PX.slot, iaAF, atV, atO, faF, ldF, ldC_ints, ldC_ints', ldC_aggc, ldC_cons, D.mem, stF, stG_ints, stG_box, bxF, mkSF, appF_oo, appF_os, ints_app, ints_snoc, ints_length, ints_nil, cut_ints, slcF_o, slcF_s, slc2_eq, slSF_eq, slS2_eq, boundF, Option.map_some, Option.map_none, mkfF_eq, capt_eq, captD_box, captD_pt, extF_eq, extO_eq, List.getElem?_cons_zero, List.getElem?_cons_succ, pickF_t, pickF_f, pickF_p, fldF, mmF2,
    lend_eq, List.map_cons, List.map_nil, D.plain, D.isPure, optAll, dulls_nil, dulls_v, dulls_k, dulls_o, D.dull, callVF, bldF_eq, bldSF_eq, fillD_nil, fillD_cons, splice, D.cells, D.one, List.length_cons, List.length_nil, List.all_cons, List.all_nil, Bool.and_self, Bool.and_true, Bool.true_and, List.take_succ_cons, List.take_zero, List.drop_succ_cons, List.drop_zero, List.nil_append, List.cons_append, List.append_nil, List.drop_nil, List.take_nil, List.replicate_succ, List.replicate_zero, List.flatten_cons, List.flatten_nil, Nat.reduceAdd, Nat.reduceMul, Nat.reduceSub, Nat.reduceLeDiff, Nat.zero_add, Nat.add_zero, Nat.mul_one, Nat.one_mul, Nat.zero_mul, Nat.zero_le, Int.toNat_natCast, Int.toNat_zero, Int.reduceToNat, Nat.sub_zero, Nat.le_refl,
    sets, List.cons.injEq, inR_i64, inR_u64, inR_u32, inR_i32, inR_u8, dB_True, dB_False, dB_neg, dB_beq_true, dB_beq_false, maxLen_eq, true_and, and_true, Bool.not_true, Bool.not_false, Bool.false_eq_true, Bool.not_eq_true, retQ_nrm, retQ_ret, resD_t, resT, Option.some.injEq, D.sl.injEq, D.int.injEq, D.bool.injEq, and_self, ne_eq, not_false_eq_true, not_true_eq_false, forall_const, D.flat, D.flat0, D.simple, Int.reduceLT, Int.reduceLE, Int.reduceEq, Int.reduceNeg, Int.reduceSub, Int.reduceAdd, Int.reduceMul, Int.ofNat_eq_natCast, imp_self, implies_true, false_implies]
    refine callF_of (Tryz.c68g x.o) ?_
    cases ho : nm x.o with
    | false =>
      simp only [initE, wC_seq, wC_reg, wC_cnd, wC_blk, wC_loop, wC_exit, wC_skip, wC_ret, wC_bad, GB_eq, zap_nil, zap_cons, lgF_g, lgF_b, sgOF_g, sgOF_b, sgPF_g, sgPF_b, Nat.reduceBNe, Nat.reduceLT, wC_rfn, wC_cus, asgK_nrm, bodK_nrm, wE_nil, wE_none, wE_st, wE_some, regK_eq, seqK_nrm, seqK_exit, seqK_ret, blkK_nrm, blkK_exit, blkK_ret, loopK_nrm, loopK_exit, loopK_ret,
    cndF_t, cndF_f, cndF_p, grdF_t, grdF_f, grdF_s, grdF_pt, grdF_pf, stepF, ev_v, ev_k, ev_o, oev_al, oev_int, oev_sl, oev_str, oev_agg, oev_pt, oev_bool, lk_cons, lk_nil, st1_cons, st1_nil, keepE_cons, keepE_nil, D.clean, reduceIte, Nat.reduceEqDiff,
    putF_int, putF_bool, putF_str, putF_sl, putF_agg, putF_tup, putF_pt, putF_clo, putF_err, mvF, moF, tkF, shF, ariF, ciF, catF, scF, ebF, eqF, eqOk, eqPr, enF, notF, ngF, cvF, csF, csbF, cbsF_s, cbsF_o, lenF, lenSF, ixF, iaF, PX.slot, iaAF, atV, atO, faF, ldF, ldC_ints, ldC_ints', ldC_aggc, ldC_cons, D.mem, stF, stG_ints, stG_box, bxF, mkSF, appF_oo, appF_os, ints_app, ints_snoc, ints_length, ints_nil, cut_ints, slcF_o, slcF_s, slc2_eq, slSF_eq, slS2_eq, boundF, Option.map_some, Option.map_none, mkfF_eq, capt_eq, captD_box, captD_pt, extF_eq, extO_eq, List.getElem?_cons_zero, List.getElem?_cons_succ, pickF_t, pickF_f, pickF_p, fldF, mmF2,
    lend_eq, List.map_cons, List.map_nil, D.plain, D.isPure, optAll, dulls_nil, dulls_v, dulls_k, dulls_o, D.dull, callVF, bldF_eq, bldSF_eq, fillD_nil, fillD_cons, splice, D.cells, D.one, List.length_cons, List.length_nil, List.all_cons, List.all_nil, Bool.and_self, Bool.and_true, Bool.true_and, List.take_succ_cons, List.take_zero, List.drop_succ_cons, List.drop_zero, List.nil_append, List.cons_append, List.append_nil, List.drop_nil, List.take_nil, List.replicate_succ, List.replicate_zero, List.flatten_cons, List.flatten_nil, Nat.reduceAdd, Nat.reduceMul, Nat.reduceSub, Nat.reduceLeDiff, Nat.zero_add, Nat.add_zero, Nat.mul_one, Nat.one_mul, Nat.zero_mul, Nat.zero_le, Int.toNat_natCast, Int.toNat_zero, Int.reduceToNat, Nat.sub_zero, Nat.le_refl,
    sets, List.cons.injEq, inR_i64, inR_u64, inR_u32, inR_i32, inR_u8, dB_True, dB_False, dB_neg, dB_beq_true, dB_beq_false, maxLen_eq, true_and, and_true, Bool.not_true, Bool.not_false, Bool.false_eq_true, Bool.not_eq_true, retQ_nrm, retQ_ret, resD_t, resT, Option.some.injEq, D.sl.injEq, D.int.injEq, D.bool.injEq, and_self, ne_eq, not_false_eq_true, not_true_eq_false, forall_const, D.flat, D.flat0, D.simple, Int.reduceLT, Int.reduceLE, Int.reduceEq, Int.reduceNeg, Int.reduceSub, Int.reduceAdd, Int.reduceMul, Int.ofNat_eq_natCast, imp_self, implies_true, false_implies]
      rw [e0, if_pos (Or.inr ho)]
    | true =>
      simp only [initE, wC_seq, wC_reg, wC_cnd, wC_blk, wC_loop, wC_exit, wC_skip, wC_ret, wC_bad, GB_eq, zap_nil, zap_cons, lgF_g, lgF_b, sgOF_g, sgOF_b, sgPF_g, sgPF_b, Nat.reduceBNe, Nat.reduceLT, wC_rfn, wC_cus, asgK_nrm, bodK_nrm, wE_nil, wE_none, wE_st, wE_some, regK_eq, seqK_nrm, seqK_exit, seqK_ret, blkK_nrm, blkK_exit, blkK_ret, loopK_nrm, loopK_exit, loopK_ret,
    cndF_t, cndF_f, cndF_p, grdF_t, grdF_f, grdF_s, grdF_pt, grdF_pf, stepF, ev_v, ev_k, ev_o, oev_al, oev_int, oev_sl, oev_str, oev_agg, oev_pt, oev_bool, lk_cons, lk_nil, st1_cons, st1_nil, keepE_cons, keepE_nil, D.clean, reduceIte, Nat.reduceEqDiff,
    putF_int, putF_bool, putF_str, putF_sl, putF_agg, putF_tup, putF_pt, putF_clo, putF_err, mvF, moF, tkF, shF, ariF, ciF, catF, scF, ebF, eqF, eqOk, eqPr, enF, notF, ngF, cvF, csF, csbF, cbsF_s, cbsF_o, lenF, lenSF, ixF, iaF, PX.slot, iaAF, atV, atO, faF, ldF, ldC_ints, ldC_ints', ldC_aggc, ldC_cons, D.mem, stF, stG_ints, stG_box, bxF, mkSF, appF_oo, appF_os, ints_app, ints_snoc, ints_length, ints_nil, cut_ints, slcF_o, slcF_s, slc2_eq, slSF_eq, slS2_eq, boundF, Option.map_some, Option.map_none, mkfF_eq, capt_eq, captD_box, captD_pt, extF_eq, extO_eq, List.getElem?_cons_zero, List.getElem?_cons_succ, pickF_t, pickF_f, pickF_p, fldF, mmF2,
    lend_eq, List.map_cons, List.map_nil, D.plain, D.isPure, optAll, dulls_nil, dulls_v, dulls_k, dulls_o, D.dull, callVF, bldF_eq, bldSF_eq, fillD_nil, fillD_cons, splice, D.cells, D.one, List.length_cons, List.length_nil, List.all_cons, List.all_nil, Bool.and_self, Bool.and_true, Bool.true_and, List.take_succ_cons, List.take_zero, List.drop_succ_cons, List.drop_zero, List.nil_append, List.cons_append, List.append_nil, List.drop_nil, List.take_nil, List.replicate_succ, List.replicate_zero, List.flatten_cons, List.flatten_nil, Nat.reduceAdd, Nat.reduceMul, Nat.reduceSub, Nat.reduceLeDiff, Nat.zero_add, Nat.add_zero, Nat.mul_one, Nat.one_mul, Nat.zero_mul, Nat.zero_le, Int.toNat_natCast, Int.toNat_zero, Int.reduceToNat, Nat.sub_zero, Nat.le_refl,
    sets, List.cons.injEq, inR_i64, inR_u64, inR_u32, inR_i32, inR_u8, dB_True, dB_False, dB_neg, dB_beq_true, dB_beq_false, maxLen_eq, true_and, and_true, Bool.not_true, Bool.not_false, Bool.false_eq_true, Bool.not_eq_true, retQ_nrm, retQ_ret, resD_t, resT, Option.some.injEq, D.sl.injEq, D.int.injEq, D.bool.injEq, and_self, ne_eq, not_false_eq_true, not_true_eq_false, forall_const, D.flat, D.flat0, D.simple, Int.reduceLT, Int.reduceLE, Int.reduceEq, Int.reduceNeg, Int.reduceSub, Int.reduceAdd, Int.reduceMul, Int.ofNat_eq_natCast, imp_self, implies_true, false_implies]
      rw [hu, ho] at e0
      rw [if_neg (by simp)] at e0
      refine ⟨fun h => ?_, fun h => ?_⟩
      · rw [e0]; simp_all
      · rw [e0]; simp_all

theorem Tryz.c59 (x : Lay) (u : List UInt8) : Con Tryz.prog Tryz.L 59 ([.agg x.d] ++ [.pt [.str u]]) (.bool (x.u == u)) := by
  refine rule59 Tryz.hL rfl rfl rfl ?_
  simp only [pc59, rs59, Lay.d, initE, wC_seq, wC_reg, wC_cnd, wC_blk, wC_loop, wC_exit, wC_skip, wC_ret, wC_bad, GB_eq, zap_nil, zap_cons, lgF_g, lgF_b, sgOF_g, sgOF_b, sgPF_g, sgPF_b, Nat.reduceBNe, Nat.reduceLT, wC_rfn, wC_cus, asgK_nrm, bodK_nrm, wE_nil, wE_none, wE_st, wE_some, regK_eq, seqK_nrm, seqK_exit, seqK_ret, blkK_nrm, blkK_exit, blkK_ret, loopK_nrm, loopK_exit, loopK_ret,
    cndF_t, cndF_f, cndF_p, grdF_t, grdF_f, grdF_s, grdF_pt, grdF_pf, stepF, ev_v, ev_k, ev_o, oev_al, oev_int, oev_sl, oev_str, oev_agg, oev_pt, oev_bool, lk_cons, lk_nil, st1_cons, st1_nil, keepE_cons, keepE_nil, D.clean, reduceIte, Nat.reduceEqDiff,
    putF_int, putF_bool, putF_str, putF_sl, putF_agg, putF_tup, putF_pt, putF_clo, putF_err, mvF, moF, tkF, shF, ariF, ciF, catF, scF, ebF, eqF, eqOk, eqPr, enF, notF, ngF, cvF, csF, csbF, cbsF_s, cbsF_o, lenF, lenSF, ixF, iaF, PX.slot, iaAF, atV, atO, faF, ldF, ldC_ints, ldC_ints', ldC_aggc, ldC_cons, D.mem, stF, stG_ints, stG_box, bxF, mkSF, appF_oo, appF_os, ints_app, ints_snoc, ints_length, ints_nil, cut_ints, slcF_o, slcF_s, slc2_eq, slSF_eq, slS2_eq, boundF, Option.map_some, Option.map_none, mkfF_eq, capt_eq, captD_box, captD_pt, extF_eq, extO_eq, List.getElem?_cons_zero, List.getElem?_cons_succ, pickF_t, pickF_f, pickF_p, fldF, mmF2,
    lend_eq, List.map_cons, List.map_nil, D.plain, D.isPure, optAll, dulls_nil, dulls_v, dulls_k, dulls_o, D.dull, callVF, bldF_eq, bldSF_eq, fillD_nil, fillD_cons, splice, D.cells, D.one, List.length_cons, List.length_nil, List.all_cons, List.all_nil, Bool.and_self, Bool.and_true, Bool.true_and, List.take_succ_cons, List.take_zero, List.drop_succ_cons, List.drop_zero, List.nil_append, List.cons_append, List.append_nil, List.drop_nil, List.take_nil, List.replicate_succ, List.replicate_zero, List.flatten_cons, List.flatten_nil, Nat.reduceAdd, Nat.reduceMul, Nat.reduceSub, Nat.reduceLeDiff, Nat.zero_add, Nat.add_zero, Nat.mul_one, Nat.one_mul, Nat.zero_mul, Nat.zero_le, Int.toNat_natCast, Int.toNat_zero, Int.reduceToNat, Nat.sub_zero, Nat.le_refl,
    sets, List.cons.injEq, inR_i64, inR_u64, inR_u32, inR_i32, inR_u8, dB_True, dB_False, dB_neg, dB_beq_true, dB_beq_false, maxLen_eq, true_and, and_true, Bool.not_true, Bool.not_false, Bool.false_eq_true, Bool.not_eq_true, retQ_nrm, retQ_ret, resD_t, resT, Option.some.injEq, D.sl.injEq, D.int.injEq, D.bool.injEq, and_self, ne_eq, not_false_eq_true, not_true_eq_false, forall_const, D.flat, D.flat0, D.simple, Int.reduceLT, Int.reduceLE, Int.reduceEq, Int.reduceNeg, Int.reduceSub, Int.reduceAdd, Int.reduceMul, Int.ofNat_eq_natCast, imp_self, implies_true, false_implies]
  rw [Bool.eq_iff_iff, dB_iff]; simp

theorem Tryz.c20 (l : List Lay) (u : List UInt8) (hl : l.length ≤ 1000) : Con Tryz.prog Tryz.L 20 [.sl l.length (lays l), .str u] (.int .i64 (idx (fun x => x.u == u) l)) := by
  refine rule20 Tryz.hL rfl rfl rfl ?_
  simp only [pc20, rs20, initE, wC_seq, wC_reg, wC_cnd, wC_blk, wC_loop, wC_exit, wC_skip, wC_ret, wC_bad, GB_eq, zap_nil, zap_cons, lgF_g, lgF_b, sgOF_g, sgOF_b, sgPF_g, sgPF_b, Nat.reduceBNe, Nat.reduceLT, wC_rfn, wC_cus, asgK_nrm, bodK_nrm, wE_nil, wE_none, wE_st, wE_some, regK_eq, seqK_nrm, seqK_exit, seqK_ret, blkK_nrm, blkK_exit, blkK_ret, loopK_nrm, loopK_exit, loopK_ret,
    cndF_t, cndF_f, cndF_p, grdF_t, grdF_f, grdF_s, grdF_pt, grdF_pf, stepF, ev_v, ev_k, ev_o, oev_al, oev_int, oev_sl, oev_str, oev_agg, oev_pt, oev_bool, lk_cons, lk_nil, st1_cons, st1_nil, keepE_cons, keepE_nil, D.clean, reduceIte, Nat.reduceEqDiff,
    putF_int, putF_bool, putF_str, putF_sl, putF_agg, putF_tup, putF_pt, putF_clo, putF_err, mvF, moF, tkF, shF, ariF, ciF, catF, scF, ebF, eqF, eqOk, eqPr, enF, notF, ngF, cvF, csF, csbF, cbsF_s, cbsF_o, lenF, lenSF, ixF, iaF, PX.slot, iaAF, atV, atO, faF, ldF, ldC_ints, ldC_ints', ldC_aggc, ldC_cons, D.mem, stF, stG_ints, stG_box, bxF, mkSF, appF_oo, appF_os, ints_app, ints_snoc, ints_length, ints_nil, cut_ints, slcF_o, slcF_s, slc2_eq, slSF_eq, slS2_eq, boundF, Option.map_some, Option.map_none, mkfF_eq, capt_eq, captD_box, captD_pt, extF_eq, extO_eq, List.getElem?_cons_zero, List.getElem?_cons_succ, pickF_t, pickF_f, pickF_p, fldF, mmF2,
    lend_eq, List.map_cons, List.map_nil, D.plain, D.isPure, optAll, dulls_nil, dulls_v, dulls_k, dulls_o, D.dull, callVF, bldF_eq, bldSF_eq, fillD_nil, fillD_cons, splice, D.cells, D.one, List.length_cons, List.length_nil, List.all_cons, List.all_nil, Bool.and_self, Bool.and_true, Bool.true_and, List.take_succ_cons, List.take_zero, List.drop_succ_cons, List.drop_zero, List.nil_append, List.cons_append, List.append_nil, List.drop_nil, List.take_nil, List.replicate_succ, List.replicate_zero, List.flatten_cons, List.flatten_nil, Nat.reduceAdd, Nat.reduceMul, Nat.reduceSub, Nat.reduceLeDiff, Nat.zero_add, Nat.add_zero, Nat.mul_one, Nat.one_mul, Nat.zero_mul, Nat.zero_le, Int.toNat_natCast, Int.toNat_zero, Int.reduceToNat, Nat.sub_zero, Nat.le_refl,
    sets, List.cons.injEq, inR_i64, inR_u64, inR_u32, inR_i32, inR_u8, dB_True, dB_False, dB_neg, dB_beq_true, dB_beq_false, maxLen_eq, true_and, and_true, Bool.not_true, Bool.not_false, Bool.false_eq_true, Bool.not_eq_true, retQ_nrm, retQ_ret, resD_t, resT, Option.some.injEq, D.sl.injEq, D.int.injEq, D.bool.injEq, and_self, ne_eq, not_false_eq_true, not_true_eq_false, forall_const, D.flat, D.flat0, D.simple, Int.reduceLT, Int.reduceLE, Int.reduceEq, Int.reduceNeg, Int.reduceSub, Int.reduceAdd, Int.reduceMul, Int.ofNat_eq_natCast, imp_self, implies_true, false_implies]
  refine callF_of (Tryz.c58 _ l hl fun x _ => Tryz.c59 x u) ?_
  simp only [initE, wC_seq, wC_reg, wC_cnd, wC_blk, wC_loop, wC_exit, wC_skip, wC_ret, wC_bad, GB_eq, zap_nil, zap_cons, lgF_g, lgF_b, sgOF_g, sgOF_b, sgPF_g, sgPF_b, Nat.reduceBNe, Nat.reduceLT, wC_rfn, wC_cus, asgK_nrm, bodK_nrm, wE_nil, wE_none, wE_st, wE_some, regK_eq, seqK_nrm, seqK_exit, seqK_ret, blkK_nrm, blkK_exit, blkK_ret, loopK_nrm, loopK_exit, loopK_ret,
    cndF_t, cndF_f, cndF_p, grdF_t, grdF_f, grdF_s, grdF_pt, grdF_pf, stepF, ev_v, ev_k, ev_o, oev_al, oev_int, oev_sl, oev_str, oev_agg, oev_pt, oev_bool, lk_cons, lk_nil, st1_cons, st1_nil, keepE_cons, keepE_nil, D.clean, reduceIte, Nat.reduceEqDiff,
    putF_int, putF_bool, putF_str, putF_sl, putF_agg, putF_tup, putF_pt, putF_clo, putF_err, mvF, moF, tkF, shF, ariF, ciF, catF, scF, ebF, eqF, eqOk, eqPr, enF, notF, ngF, cvF, csF, csbF, cbsF_s, cbsF_o, lenF, lenSF, ixF, iaF, PX.slot, iaAF, atV, atO, faF, ldF, ldC_ints, ldC_ints', ldC_aggc, ldC_cons, D.mem, stF, stG_ints, stG_box, bxF, mkSF, appF_oo, appF_os, ints_app, ints_snoc, ints_length, ints_nil, cut_ints, slcF_o, slcF_s, slc2_eq, slSF_eq, slS2_eq, boundF, Option.map_some, Option.map_none, mkfF_eq, capt_eq, captD_box, captD_pt, extF_eq, extO_eq, List.getElem?_cons_zero, List.getElem?_cons_succ, pickF_t, pickF_f, pickF_p, fldF, mmF2,
    lend_eq, List.map_cons, List.map_nil, D.plain, D.isPure, optAll, dulls_nil, dulls_v, dulls_k, dulls_o, D.dull, callVF, bldF_eq, bldSF_eq, fillD_nil, fillD_cons, splice, D.cells, D.one, List.length_cons, List.length_nil, List.all_cons, List.all_nil, Bool.and_self, Bool.and_true, Bool.true_and, List.take_succ_cons, List.take_zero, List.drop_succ_cons, List.drop_zero, List.nil_append, List.cons_append, List.append_nil, List.drop_nil, List.take_nil, List.replicate_succ, List.replicate_zero, List.flatten_cons, List.flatten_nil, Nat.reduceAdd, Nat.reduceMul, Nat.reduceSub, Nat.reduceLeDiff, Nat.zero_add, Nat.add_zero, Nat.mul_one, Nat.one_mul, Nat.zero_mul, Nat.zero_le, Int.toNat_natCast, Int.toNat_zero, Int.reduceToNat, Nat.sub_zero, Nat.le_refl,
    sets, List.cons.injEq, inR_i64, inR_u64, inR_u32, inR_i32, inR_u8, dB_True, dB_False, dB_neg, dB_beq_true, dB_beq_false, maxLen_eq, true_and, and_true, Bool.not_true, Bool.not_false, Bool.false_eq_true, Bool.not_eq_true, retQ_nrm, retQ_ret, resD_t, resT, Option.some.injEq, D.sl.injEq, D.int.injEq, D.bool.injEq, and_self, ne_eq, not_false_eq_true, not_true_eq_false, forall_const, D.flat, D.flat0, D.simple, Int.reduceLT, Int.reduceLE, Int.reduceEq, Int.reduceNeg, Int.reduceSub, Int.reduceAdd, Int.reduceMul, Int.ofNat_eq_natCast, imp_self, implies_true, false_implies]

/-- the relation contradicts the column -/
def Rl.bad (l : List Lay) (x : Rl) : Bool := decide (x.k ≠ 4 ∧ 0 ≤ idx (fun y => y.u == x.u) l ∧ 0 ≤ idx (fun y => y.u == x.o) l ∧ idx (fun y => y.u == x.u) l ≤ idx (fun y => y.u == x.o) l)
theorem Tryz.c32 (l : List Lay) (hl : l.length ≤ 1000) (x : Rl) : Con Tryz.prog Tryz.L 32 ([.agg x.d] ++ [.pt [.sl l.length (lays l)]]) (.bool (x.bad l)) := by
  refine rule32 Tryz.hL rfl rfl rfl ?_
  simp only [pc32, rs32, Rl.d, initE, wC_seq, wC_reg, wC_cnd, wC_blk, wC_loop, wC_exit, wC_skip, wC_ret, wC_bad, GB_eq, zap_nil, zap_cons, lgF_g, lgF_b, sgOF_g, sgOF_b, sgPF_g, sgPF_b, Nat.reduceBNe, Nat.reduceLT, wC_rfn, wC_cus, asgK_nrm, bodK_nrm, wE_nil, wE_none, wE_st, wE_some, regK_eq, seqK_nrm, seqK_exit, seqK_ret, blkK_nrm, blkK_exit, blkK_ret, loopK_nrm, loopK_exit, loopK_ret,
    cndF_t, cndF_f, cndF_p, grdF_t, grdF_f, grdF_s, grdF_pt, grdF_pf, stepF, ev_v, ev_k, ev_o, oev_al, oev_int, oev_sl, oev_str, oev_agg, oev_pt, oev_bool, lk_cons, lk_nil, st1_cons, st1_nil, keepE_cons, keepE_nil, D.clean, reduceIte, Nat.reduceEqDiff,
    putF_int, putF_bool, putF_str, putF_sl, putF_agg, putF_tup, putF_pt, putF_clo, putF_err, mvF, moF, tkF, shF, ariF, ciF, catF, scF, ebF, eqF, eqOk, eqPr, enF, notF, ngF, cvF, csF, csbF, cbsF_s, cbsF_o, lenF, lenSF, ixF, iaF, PX.slot, iaAF, atV, atO, faF, ldF, ldC_ints, ldC_ints', ldC_aggc, ldC_cons, D.mem, stF, stG_ints, stG_box, bxF, mkSF, appF_oo, appF_os, ints_app, ints_snoc, ints_length, ints_nil, cut_ints, slcF_o, slcF_s, slc2_eq, slSF_eq, slS2_eq, boundF, Option.map_some, Option.map_none, mkfF_eq, capt_eq, captD_box, captD_pt, extF_eq, extO_eq, List.getElem?_cons_zero, List.getElem?_cons_succ, pickF_t, pickF_f, pickF_p, fldF, mmF2,
    lend_eq, List.map_cons, List.map_nil, D.plain, D.isPure, optAll, dulls_nil, dulls_v, dulls_k, dulls_o, D.dull, callVF, bldF_eq, bldSF_eq, fillD_nil, fillD_cons, splice, D.cells, D.one, List.length_cons, List.length_nil, List.all_cons, List.all_nil, Bool.and_self, Bool.and_true, Bool.true_and, List.take_succ_cons, List.take_zero, List.drop_succ_cons, List.drop_zero, List.nil_append, List.cons_append, List.append_nil, List.drop_nil, List.take_nil, List.replicate_succ, List.replicate_zero, List.flatten_cons, List.flatten_nil, Nat.reduceAdd, Nat.reduceMul, Nat.reduceSub, Nat.reduceLeDiff, Nat.zero_add, Nat.add_zero, Nat.mul_one, Nat.one_mul, Nat.zero_mul, Nat.zero_le, Int.toNat_natCast, Int.toNat_zero, Int.reduceToNat, Nat.sub_zero, Nat.le_refl,
    sets, List.cons.injEq, inR_i64, inR_u64, inR_u32, inR_i32, inR_u8, dB_True, dB_False, dB_neg, dB_beq_true, dB_beq_false, maxLen_eq, true_and, and_true, Bool.not_true, Bool.not_false, Bool.false_eq_true, Bool.not_eq_true, retQ_nrm, retQ_ret, resD_t, resT, Option.some.injEq, D.sl.injEq, D.int.injEq, D.bool.injEq, and_self, ne_eq, not_false_eq_true, not_true_eq_false, forall_const, D.flat, D.flat0, D.simple, Int.reduceLT, Int.reduceLE, Int.reduceEq, Int.reduceNeg, Int.reduceSub, Int.reduceAdd, Int.reduceMul, Int.ofNat_eq_natCast, imp_self, implies_true, false_implies]
  refine callF_of (Tryz.c20 l x.u hl) ?_
  simp only [initE, wC_seq, wC_reg, wC_cnd, wC_blk, wC_loop, wC_exit, wC_skip, wC_ret, wC_bad, GB_eq, zap_nil, zap_cons, lgF_g, lgF_b, sgOF_g, sgOF_b, sgPF_g, sgPF_b, Nat.reduceBNe, Nat.reduceLT, wC_rfn, wC_cus, asgK_nrm, bodK_nrm, wE_nil, wE_none, wE_st, wE_some, regK_eq, seqK_nrm, seqK_exit, seqK_ret, blkK_nrm, blkK_exit, blkK_ret, loopK_nrm, loopK_exit, loopK_ret,
    cndF_t, cndF_f, cndF_p, grdF_t, grdF_f, grdF_s, grdF_pt, grdF_pf, stepF, ev_v, ev_k, ev_o, oev_al, oev_int, oev_sl, oev_str, oev_agg, oev_pt, oev_bool, lk_cons, lk_nil, st1_cons, st1_nil, keepE_cons, keepE_nil, D.clean, reduceIte, Nat.reduceEqDiff,
    putF_int, putF_bool, putF_str, putF_sl, putF_agg, putF_tup, putF_pt, putF_clo, putF_err, mvF, moF, tkF, shF, ariF, ciF, catF, scF, ebF, eqF, eqOk, eqPr, enF, notF, ngF, cvF, csF, csbF, cbsF_s, cbsF_o, lenF, lenSF, ixF, iaF, PX.slot, iaAF, atV, atO, faF, ldF, ldC_ints, ldC_ints', ldC_aggc, ldC_cons, D.mem, stF, stG_ints, stG_box, bxF, mkSF, appF_oo, appF_os, ints_app, ints_snoc, ints_length, ints_nil, cut_ints, slcF_o, slcF_s, slc2_eq, slSF_eq, slS2_eq, boundF, Option.map_some, Option.map_none, mkfF_eq, capt_eq, captD_box, captD_pt, extF_eq, extO_eq, List.getElem?_cons_zero, List.getElem?_cons_succ, pickF_t, pickF_f, pickF_p, fldF, mmF2,
    lend_eq, List.map_cons, List.map_nil, D.plain, D.isPure, optAll, dulls_nil, dulls_v, dulls_k, dulls_o, D.dull, callVF, bldF_eq, bldSF_eq, fillD_nil, fillD_cons, splice, D.cells, D.one, List.length_cons, List.length_nil, List.all_cons, List.all_nil, Bool.and_self, Bool.and_true, Bool.true_and, List.take_succ_cons, List.take_zero, List.drop_succ_cons, List.drop_zero, List.nil_append, List.cons_append, List.append_nil, List.drop_nil, List.take_nil, List.replicate_succ, List.replicate_zero, List.flatten_cons, List.flatten_nil, Nat.reduceAdd, Nat.reduceMul, Nat.reduceSub, Nat.reduceLeDiff, Nat.zero_add, Nat.add_zero, Nat.mul_one, Nat.one_mul, Nat.zero_mul, Nat.zero_le, Int.toNat_natCast, Int.toNat_zero, Int.reduceToNat, Nat.sub_zero, Nat.le_refl,
    sets, List.cons.injEq, inR_i64, inR_u64, inR_u32, inR_i32, inR_u8, dB_True, dB_False, dB_neg, dB_beq_true, dB_beq_false, maxLen_eq, true_and, and_true, Bool.not_true, Bool.not_false, Bool.false_eq_true, Bool.not_eq_true, retQ_nrm, retQ_ret, resD_t, resT, Option.some.injEq, D.sl.injEq, D.int.injEq, D.bool.injEq, and_self, ne_eq, not_false_eq_true, not_true_eq_false, forall_const, D.flat, D.flat0, D.simple, Int.reduceLT, Int.reduceLE, Int.reduceEq, Int.reduceNeg, Int.reduceSub, Int.reduceAdd, Int.reduceMul, Int.ofNat_eq_natCast, imp_self, implies_true, false_implies]
  refine callF_of (Tryz.c20 l x.o hl) ?_
  simp only [initE, wC_seq, wC_reg, wC_cnd, wC_blk, wC_loop, wC_exit, wC_skip, wC_ret, wC_bad, GB_eq, zap_nil, zap_cons, lgF_g, lgF_b, sgOF_g, sgOF_b, sgPF_g, sgPF_b, Nat.reduceBNe, Nat.reduceLT, wC_rfn, wC_cus, asgK_nrm, bodK_nrm, wE_nil, wE_none, wE_st, wE_some, regK_eq, seqK_nrm, seqK_exit, seqK_ret, blkK_nrm, blkK_exit, blkK_ret, loopK_nrm, loopK_exit, loopK_ret,
    cndF_t, cndF_f, cndF_p, grdF_t, grdF_f, grdF_s, grdF_pt, grdF_pf, stepF, ev_v, ev_k, ev_o, oev_al, oev_int, oev_sl, oev_str, oev_agg, oev_pt, oev_bool, lk_cons, lk_nil, st1_cons, st1_nil, keepE_cons, keepE_nil, D.clean, reduceIte, Nat.reduceEqDiff,
    putF_int, putF_bool, putF_str, putF_sl, putF_agg, putF_tup, putF_pt, putF_clo, putF_err, mvF, moF, tkF, shF, ariF, ciF, catF, scF, ebF, eqF, eqOk, eqPr, enF, notF, ngF, cvF, csF, csbF, cbsF_s, cbsF_o, lenF, lenSF, ixF, iaF, PX.slot, iaAF, atV, atO, faF, ldF, ldC_ints, ldC_ints', ldC_aggc, ldC_cons, D.mem, stF, stG_ints, stG_box, bxF, mkSF, appF_oo, appF_os, ints_app, ints_snoc, ints_length, ints_nil, cut_ints, slcF_o, slcF_s, slc2_eq, slSF_eq, slS2_eq, boundF, Option.map_some, Option.map_none, mkfF_eq, capt_eq, captD_box, captD_pt, extF_eq, extO_eq, List.getElem?_cons_zero, List.getElem?_cons_succ, pickF_t, pickF_f, pickF_p, fldF, mmF2,
    lend_eq, List.map_cons, List.map_nil, D.plain, D.isPure, optAll, dulls_nil, dulls_v, dulls_k, dulls_o, D.dull, callVF, bldF_eq, bldSF_eq, fillD_nil, fillD_cons, splice, D.cells, D.one, List.length_cons, List.length_nil, List.all_cons, List.all_nil, Bool.and_self, Bool.and_true, Bool.true_and, List.take_succ_cons, List.take_zero, List.drop_succ_cons, List.drop_zero, List.nil_append, List.cons_append, List.append_nil, List.drop_nil, List.take_nil, List.replicate_succ, List.replicate_zero, List.flatten_cons, List.flatten_nil, Nat.reduceAdd, Nat.reduceMul, Nat.reduceSub, Nat.reduceLeDiff, Nat.zero_add, Nat.add_zero, Nat.mul_one, Nat.one_mul, Nat.zero_mul, Nat.zero_le, Int.toNat_natCast, Int.toNat_zero, Int.reduceToNat, Nat.sub_zero, Nat.le_refl,
    sets, List.cons.injEq, inR_i64, inR_u64, inR_u32, inR_i32, inR_u8, dB_True, dB_False, dB_neg, dB_beq_true, dB_beq_false, maxLen_eq, true_and, and_true, Bool.not_true, Bool.not_false, Bool.false_eq_true, Bool.not_eq_true, retQ_nrm, retQ_ret, resD_t, resT, Option.some.injEq, D.sl.injEq, D.int.injEq, D.bool.injEq, and_self, ne_eq, not_false_eq_true, not_true_eq_false, forall_const, D.flat, D.flat0, D.simple, Int.reduceLT, Int.reduceLE, Int.reduceEq, Int.reduceNeg, Int.reduceSub, Int.reduceAdd, Int.reduceMul, Int.ofNat_eq_natCast, imp_self, implies_true, false_implies]
  unfold Rl.bad
  generalize idx (fun y => y.u == x.u) l = i
  generalize idx (fun y => y.u == x.o) l = j
  generalize x.k = k
  repeat' first
    | intro _
    | (symm; apply decide_eq_true; omega)
    | (symm; apply decide_eq_false; omega)
    | (rw [Bool.eq_iff_iff, dB_iff, decide_eq_true_iff]; omega)
    | apply And.intro
end Go.Proofs
