/-
  SEAT 22: more contracts of the library; column.Text. Own work.
-/
import Derived.Test.YthfgjhnckegneaaGreatDoorS22L
import Derived.Test.YthfgjhnckegneaaGreatDoorFu
import Derived.Test.YthfgjhnckegneaaGreatDoorBk3
import Derived.Test.YthfgjhnckegneaaGreatDoorBk4
import Derived.Test.YthfgjhnckegneaaGreatDoorPiZ
import Derived.Test.YthfgjhnckegneaaGreatDoorRb
namespace Go.Proofs
open Go Go.Pi Go.RowKit

theorem reps_2 {S : Nat → Nat → Prop} {w : World} {d e : D} {vs : List Value} (h : Reps S w [d, e] vs) : ∃ x y, vs = [x, y] ∧ Rep S w d x ∧ Rep S w e y := by
  obtain ⟨x, vs', rfl, h1, h2⟩ := h.uncons
  obtain ⟨y, rfl, h3⟩ := reps_1 h2
  exact ⟨x, y, rfl, h1, h3⟩

theorem Tryz.c130 (l : List UInt8) (c : UInt8) : Con Tryz.prog Tryz.L 130 [.str l, .int .u8 c.toNat] (.int .i64 (Lib.indexByte l c)) := by
  refine con_val (by kernel_rfl) rfl fun S w vs hL hv => ?_
  obtain ⟨x, y, rfl, h1, h2⟩ := reps_2 hv
  cases h1; cases h2
  refine (Tryz.stringslite_IndexByte ⟨l.toArray⟩ c.toNat w).mono ?_
  rintro e w' ⟨rfl, rfl⟩
  exact ⟨_, rfl, Below.refl _ _, fun _ _ => by simpa using .int _ _⟩

theorem Tryz.c148 (l : List UInt8) (c : UInt8) : Con Tryz.prog Tryz.L 148 [.str l, .str [c]] (.int .i64 (Lib.indexByte l c)) := by
  refine con_val (by kernel_rfl) rfl fun S w vs hL hv => ?_
  obtain ⟨x, y, rfl, h1, h2⟩ := reps_2 hv
  cases h1; cases h2
  refine (Tryz.stringslite_Index_one ⟨l.toArray⟩ c w).mono ?_
  rintro e w' ⟨rfl, rfl⟩
  exact ⟨_, rfl, Below.refl _ _, fun _ _ => by simpa using .int _ _⟩

/-- a layer: its unit, its bounds -/
structure Lay where
  u : List UInt8
  a : List UInt8
  b : List UInt8
  deriving DecidableEq

def Lay.d (x : Lay) : List D := [.str x.u, .str x.a, .str x.b]
abbrev lays (l : List Lay) : List D := rows Lay.d l
theorem Lay.d_len (x : Lay) : x.d.length = 3 := rfl

/-- the line of a layer -/
def Lay.line (x : Lay) : List UInt8 := x.u ++ [32] ++ x.a ++ [32] ++ (if x.b = [] then [45] else x.b)
def Lay.small (x : Lay) : Prop := x.u.length ≤ 1000 ∧ x.a.length ≤ 1000 ∧ x.b.length ≤ 1000

theorem Tryz.c13 (l : List Lay) (hs : ∀ x ∈ l, x.small) (hl : l.length ≤ 1000) (hc : Con Tryz.prog Tryz.L 45 [.sl l.length (lays l)] (.int .i64 0)) :
    Con Tryz.prog Tryz.L 13 [.sl l.length (lays l)] (.tup [.sl l.length (strs (l.reverse.map Lay.line)), .int .i64 0]) := by
  refine rule13 Tryz.hL (fun q hq => by simp [PC.backs, pc13] at hq; subst hq; exact back53) rfl rfl rfl ?_
  simp only [pc13, rs13, initE, wC_seq, wC_reg, wC_cnd, wC_blk, wC_loop, wC_exit, wC_skip, wC_ret, wC_bad, GB_eq, zap_nil, zap_cons, lgF_g, lgF_b, sgOF_g, sgOF_b, sgPF_g, sgPF_b, Nat.reduceBNe, Nat.reduceLT, wC_rfn, wC_cus, asgK_nrm, bodK_nrm, wE_nil, wE_none, wE_st, wE_some, regK_eq, seqK_nrm, seqK_exit, seqK_ret, blkK_nrm, blkK_exit, blkK_ret, loopK_nrm, loopK_exit, loopK_ret,
    cndF_t, cndF_f, cndF_p, grdF_t, grdF_f, grdF_s, grdF_pt, grdF_pf, stepF, ev_v, ev_k, ev_o, oev_al, oev_int, oev_sl, oev_str, oev_agg, oev_pt, oev_bool, lk_cons, lk_nil, st1_cons, st1_nil, keepE_cons, keepE_nil, D.clean, reduceIte, Nat.reduceEqDiff,
    putF_int, putF_bool, putF_str, putF_sl, putF_agg, putF_tup, putF_pt, putF_clo, putF_err, mvF, moF, tkF, shF, ariF, ciF, catF, scF, ebF, eqF, eqOk, eqPr, enF, notF, ngF, cvF, csF, csbF, cbsF_s, cbsF_o, lenF, lenSF, ixF, iaF, PX.slot, iaAF, atV, atO, faF, ldF, ldC_ints, ldC_ints', ldC_aggc, ldC_cons, D.mem, stF, stG_ints, stG_box, bxF, mkSF, appF_oo, appF_os, ints_app, ints_snoc, ints_length, ints_nil, cut_ints, slcF_o, slcF_s, slc2_eq, slSF_eq, slS2_eq, boundF, Option.map_some, Option.map_none, mkfF_eq, capt_eq, captD_box, captD_pt, extF_eq, extO_eq, List.getElem?_cons_zero, List.getElem?_cons_succ, pickF_t, pickF_f, pickF_p, fldF, mmF2,
    lend_eq, List.map_cons, List.map_nil, D.plain, D.isPure, optAll, dulls_nil, dulls_v, dulls_k, dulls_o, D.dull, callVF, bldF_eq, bldSF_eq, fillD_nil, fillD_cons, splice, D.cells, D.one, List.length_cons, List.length_nil, List.all_cons, List.all_nil, Bool.and_self, Bool.and_true, Bool.true_and, List.take_succ_cons, List.take_zero, List.drop_succ_cons, List.drop_zero, List.nil_append, List.cons_append, List.append_nil, List.drop_nil, List.take_nil, List.replicate_succ, List.replicate_zero, List.flatten_cons, List.flatten_nil, Nat.reduceAdd, Nat.reduceMul, Nat.reduceSub, Nat.reduceLeDiff, Nat.zero_add, Nat.add_zero, Nat.mul_one, Nat.one_mul, Nat.zero_mul, Nat.zero_le, Int.toNat_natCast, Int.toNat_zero, Int.reduceToNat, Nat.sub_zero, Nat.le_refl,
    sets, List.cons.injEq, inR_i64, inR_u64, inR_u32, inR_i32, inR_u8, dB_True, dB_False, dB_neg, dB_beq_true, dB_beq_false, maxLen_eq, true_and, and_true, Bool.not_true, Bool.not_false, Bool.false_eq_true, Bool.not_eq_true, retQ_nrm, retQ_ret, resD_t, resT, Option.some.injEq, D.sl.injEq, D.int.injEq, D.bool.injEq, and_self, ne_eq, not_false_eq_true, not_true_eq_false, forall_const, D.flat, D.flat0, D.simple, Int.reduceLT, Int.reduceLE, Int.reduceEq, Int.reduceNeg, Int.reduceSub, Int.reduceAdd, Int.reduceMul, Int.ofNat_eq_natCast, imp_self, implies_true, false_implies]
  refine callF_of hc ?_
  simp only [initE, wC_seq, wC_reg, wC_cnd, wC_blk, wC_loop, wC_exit, wC_skip, wC_ret, wC_bad, GB_eq, zap_nil, zap_cons, lgF_g, lgF_b, sgOF_g, sgOF_b, sgPF_g, sgPF_b, Nat.reduceBNe, Nat.reduceLT, wC_rfn, wC_cus, asgK_nrm, bodK_nrm, wE_nil, wE_none, wE_st, wE_some, regK_eq, seqK_nrm, seqK_exit, seqK_ret, blkK_nrm, blkK_exit, blkK_ret, loopK_nrm, loopK_exit, loopK_ret,
    cndF_t, cndF_f, cndF_p, grdF_t, grdF_f, grdF_s, grdF_pt, grdF_pf, stepF, ev_v, ev_k, ev_o, oev_al, oev_int, oev_sl, oev_str, oev_agg, oev_pt, oev_bool, lk_cons, lk_nil, st1_cons, st1_nil, keepE_cons, keepE_nil, D.clean, reduceIte, Nat.reduceEqDiff,
    putF_int, putF_bool, putF_str, putF_sl, putF_agg, putF_tup, putF_pt, putF_clo, putF_err, mvF, moF, tkF, shF, ariF, ciF, catF, scF, ebF, eqF, eqOk, eqPr, enF, notF, ngF, cvF, csF, csbF, cbsF_s, cbsF_o, lenF, lenSF, ixF, iaF, PX.slot, iaAF, atV, atO, faF, ldF, ldC_ints, ldC_ints', ldC_aggc, ldC_cons, D.mem, stF, stG_ints, stG_box, bxF, mkSF, appF_oo, appF_os, ints_app, ints_snoc, ints_length, ints_nil, cut_ints, slcF_o, slcF_s, slc2_eq, slSF_eq, slS2_eq, boundF, Option.map_some, Option.map_none, mkfF_eq, capt_eq, captD_box, captD_pt, extF_eq, extO_eq, List.getElem?_cons_zero, List.getElem?_cons_succ, pickF_t, pickF_f, pickF_p, fldF, mmF2,
    lend_eq, List.map_cons, List.map_nil, D.plain, D.isPure, optAll, dulls_nil, dulls_v, dulls_k, dulls_o, D.dull, callVF, bldF_eq, bldSF_eq, fillD_nil, fillD_cons, splice, D.cells, D.one, List.length_cons, List.length_nil, List.all_cons, List.all_nil, Bool.and_self, Bool.and_true, Bool.true_and, List.take_succ_cons, List.take_zero, List.drop_succ_cons, List.drop_zero, List.nil_append, List.cons_append, List.append_nil, List.drop_nil, List.take_nil, List.replicate_succ, List.replicate_zero, List.flatten_cons, List.flatten_nil, Nat.reduceAdd, Nat.reduceMul, Nat.reduceSub, Nat.reduceLeDiff, Nat.zero_add, Nat.add_zero, Nat.mul_one, Nat.one_mul, Nat.zero_mul, Nat.zero_le, Int.toNat_natCast, Int.toNat_zero, Int.reduceToNat, Nat.sub_zero, Nat.le_refl,
    sets, List.cons.injEq, inR_i64, inR_u64, inR_u32, inR_i32, inR_u8, dB_True, dB_False, dB_neg, dB_beq_true, dB_beq_false, maxLen_eq, true_and, and_true, Bool.not_true, Bool.not_false, Bool.false_eq_true, Bool.not_eq_true, retQ_nrm, retQ_ret, resD_t, resT, Option.some.injEq, D.sl.injEq, D.int.injEq, D.bool.injEq, and_self, ne_eq, not_false_eq_true, not_true_eq_false, forall_const, D.flat, D.flat0, D.simple, Int.reduceLT, Int.reduceLE, Int.reduceEq, Int.reduceNeg, Int.reduceSub, Int.reduceAdd, Int.reduceMul, Int.ofNat_eq_natCast, imp_self, implies_true, false_implies]
  refine callF_of (Tryz.c14 _ _) ?_
  simp only [initE, wC_seq, wC_reg, wC_cnd, wC_blk, wC_loop, wC_exit, wC_skip, wC_ret, wC_bad, GB_eq, zap_nil, zap_cons, lgF_g, lgF_b, sgOF_g, sgOF_b, sgPF_g, sgPF_b, Nat.reduceBNe, Nat.reduceLT, wC_rfn, wC_cus, asgK_nrm, bodK_nrm, wE_nil, wE_none, wE_st, wE_some, regK_eq, seqK_nrm, seqK_exit, seqK_ret, blkK_nrm, blkK_exit, blkK_ret, loopK_nrm, loopK_exit, loopK_ret,
    cndF_t, cndF_f, cndF_p, grdF_t, grdF_f, grdF_s, grdF_pt, grdF_pf, stepF, ev_v, ev_k, ev_o, oev_al, oev_int, oev_sl, oev_str, oev_agg, oev_pt, oev_bool, lk_cons, lk_nil, st1_cons, st1_nil, keepE_cons, keepE_nil, D.clean, reduceIte, Nat.reduceEqDiff,
    putF_int, putF_bool, putF_str, putF_sl, putF_agg, putF_tup, putF_pt, putF_clo, putF_err, mvF, moF, tkF, shF, ariF, ciF, catF, scF, ebF, eqF, eqOk, eqPr, enF, notF, ngF, cvF, csF, csbF, cbsF_s, cbsF_o, lenF, lenSF, ixF, iaF, PX.slot, iaAF, atV, atO, faF, ldF, ldC_ints, ldC_ints', ldC_aggc, ldC_cons, D.mem, stF, stG_ints, stG_box, bxF, mkSF, appF_oo, appF_os, ints_app, ints_snoc, ints_length, ints_nil, cut_ints, slcF_o, slcF_s, slc2_eq, slSF_eq, slS2_eq, boundF, Option.map_some, Option.map_none, mkfF_eq, capt_eq, captD_box, captD_pt, extF_eq, extO_eq, List.getElem?_cons_zero, List.getElem?_cons_succ, pickF_t, pickF_f, pickF_p, fldF, mmF2,
    lend_eq, List.map_cons, List.map_nil, D.plain, D.isPure, optAll, dulls_nil, dulls_v, dulls_k, dulls_o, D.dull, callVF, bldF_eq, bldSF_eq, fillD_nil, fillD_cons, splice, D.cells, D.one, List.length_cons, List.length_nil, List.all_cons, List.all_nil, Bool.and_self, Bool.and_true, Bool.true_and, List.take_succ_cons, List.take_zero, List.drop_succ_cons, List.drop_zero, List.nil_append, List.cons_append, List.append_nil, List.drop_nil, List.take_nil, List.replicate_succ, List.replicate_zero, List.flatten_cons, List.flatten_nil, Nat.reduceAdd, Nat.reduceMul, Nat.reduceSub, Nat.reduceLeDiff, Nat.zero_add, Nat.add_zero, Nat.mul_one, Nat.one_mul, Nat.zero_mul, Nat.zero_le, Int.toNat_natCast, Int.toNat_zero, Int.reduceToNat, Nat.sub_zero, Nat.le_refl,
    sets, List.cons.injEq, inR_i64, inR_u64, inR_u32, inR_i32, inR_u8, dB_True, dB_False, dB_neg, dB_beq_true, dB_beq_false, maxLen_eq, true_and, and_true, Bool.not_true, Bool.not_false, Bool.false_eq_true, Bool.not_eq_true, retQ_nrm, retQ_ret, resD_t, resT, Option.some.injEq, D.sl.injEq, D.int.injEq, D.bool.injEq, and_self, ne_eq, not_false_eq_true, not_true_eq_false, forall_const, D.flat, D.flat0, D.simple, Int.reduceLT, Int.reduceLE, Int.reduceEq, Int.reduceNeg, Int.reduceSub, Int.reduceAdd, Int.reduceMul, Int.ofNat_eq_natCast, imp_self, implies_true, false_implies]
  refine rfnF_of (fun k E => ∃ hk : k ≤ l.length, E = [(5, .gbox 1000005), (15, .clo 53 [.pt [.sl l.length (lays l)]]), (1000005, .own true 9 k (strs ((l.reverse.map Lay.line).take k)))])
    (by rw [rows_length Lay.d_len]) ⟨Nat.zero_le _, rfl⟩ (fun k E1 hE => by obtain ⟨_, rfl⟩ := hE; rfl) ?_ ?_
  · rintro _ ⟨_, rfl⟩
    simp only [initE, wC_seq, wC_reg, wC_cnd, wC_blk, wC_loop, wC_exit, wC_skip, wC_ret, wC_bad, GB_eq, zap_nil, zap_cons, lgF_g, lgF_b, sgOF_g, sgOF_b, sgPF_g, sgPF_b, Nat.reduceBNe, Nat.reduceLT, wC_rfn, wC_cus, asgK_nrm, bodK_nrm, wE_nil, wE_none, wE_st, wE_some, regK_eq, seqK_nrm, seqK_exit, seqK_ret, blkK_nrm, blkK_exit, blkK_ret, loopK_nrm, loopK_exit, loopK_ret,
    cndF_t, cndF_f, cndF_p, grdF_t, grdF_f, grdF_s, grdF_pt, grdF_pf, stepF, ev_v, ev_k, ev_o, oev_al, oev_int, oev_sl, oev_str, oev_agg, oev_pt, oev_bool, lk_cons, lk_nil, st1_cons, st1_nil, keepE_cons, keepE_nil, D.clean, reduceIte, Nat.reduceEqDiff,
    putF_int, putF_bool, putF_str, putF_sl, putF_agg, putF_tup, putF_pt, putF_clo, putF_err, mvF, moF, tkF, shF, ariF, ciF, catF, scF, ebF, eqF, eqOk, eqPr, enF, notF, ngF, cvF, csF, csbF, cbsF_s, cbsF_o, lenF, lenSF, ixF, iaF, PX.slot, iaAF, atV, atO, faF, ldF, ldC_ints, ldC_ints', ldC_aggc, ldC_cons, D.mem, stF, stG_ints, stG_box, bxF, mkSF, appF_oo, appF_os, ints_app, ints_snoc, ints_length, ints_nil, cut_ints, slcF_o, slcF_s, slc2_eq, slSF_eq, slS2_eq, boundF, Option.map_some, Option.map_none, mkfF_eq, capt_eq, captD_box, captD_pt, extF_eq, extO_eq, List.getElem?_cons_zero, List.getElem?_cons_succ, pickF_t, pickF_f, pickF_p, fldF, mmF2,
    lend_eq, List.map_cons, List.map_nil, D.plain, D.isPure, optAll, dulls_nil, dulls_v, dulls_k, dulls_o, D.dull, callVF, bldF_eq, bldSF_eq, fillD_nil, fillD_cons, splice, D.cells, D.one, List.length_cons, List.length_nil, List.all_cons, List.all_nil, Bool.and_self, Bool.and_true, Bool.true_and, List.take_succ_cons, List.take_zero, List.drop_succ_cons, List.drop_zero, List.nil_append, List.cons_append, List.append_nil, List.drop_nil, List.take_nil, List.replicate_succ, List.replicate_zero, List.flatten_cons, List.flatten_nil, Nat.reduceAdd, Nat.reduceMul, Nat.reduceSub, Nat.reduceLeDiff, Nat.zero_add, Nat.add_zero, Nat.mul_one, Nat.one_mul, Nat.zero_mul, Nat.zero_le, Int.toNat_natCast, Int.toNat_zero, Int.reduceToNat, Nat.sub_zero, Nat.le_refl,
    sets, List.cons.injEq, inR_i64, inR_u64, inR_u32, inR_i32, inR_u8, dB_True, dB_False, dB_neg, dB_beq_true, dB_beq_false, maxLen_eq, true_and, and_true, Bool.not_true, Bool.not_false, Bool.false_eq_true, Bool.not_eq_true, retQ_nrm, retQ_ret, resD_t, resT, Option.some.injEq, D.sl.injEq, D.int.injEq, D.bool.injEq, and_self, ne_eq, not_false_eq_true, not_true_eq_false, forall_const, D.flat, D.flat0, D.simple, Int.reduceLT, Int.reduceLE, Int.reduceEq, Int.reduceNeg, Int.reduceSub, Int.reduceAdd, Int.reduceMul, Int.ofNat_eq_natCast, imp_self, implies_true, false_implies]
    rw [List.take_of_length_le (by simp)]
    simp [resD_two, rvD, lk, D.plain, D.isPure, optAll]
  · rintro k _ hkm ⟨hk, rfl⟩
    have hx : l[l.length - 1 - k]? = some (l[l.length - 1 - k]'(by omega)) := List.getElem?_eq_getElem (by omega)
    have hr : (l.reverse.map Lay.line).take (k + 1) = (l.reverse.map Lay.line).take k ++ [(l[l.length - 1 - k]'(by omega)).line] := by
      rw [List.take_succ_eq_append_getElem (by simpa using hkm)]
      simp [List.getElem_reverse]
    have hsm := hs _ (List.mem_of_getElem? hx)
    generalize l[l.length - 1 - k]'(by omega) = x at hx hr hsm
    refine ⟨_, ofCells_rows Lay.d_len hx, rfl, ?_⟩
    obtain ⟨h1, h2, h3⟩ := hsm
    simp only [Lay.d, initE, wC_seq, wC_reg, wC_cnd, wC_blk, wC_loop, wC_exit, wC_skip, wC_ret, wC_bad, GB_eq, zap_nil, zap_cons, lgF_g, lgF_b, sgOF_g, sgOF_b, sgPF_g, sgPF_b, Nat.reduceBNe, Nat.reduceLT, wC_rfn, wC_cus, asgK_nrm, bodK_nrm, wE_nil, wE_none, wE_st, wE_some, regK_eq, seqK_nrm, seqK_exit, seqK_ret, blkK_nrm, blkK_exit, blkK_ret, loopK_nrm, loopK_exit, loopK_ret,
    cndF_t, cndF_f, cndF_p, grdF_t, grdF_f, grdF_s, grdF_pt, grdF_pf, stepF, ev_v, ev_k, ev_o, oev_al, oev_int, oev_sl, oev_str, oev_agg, oev_pt, oev_bool, lk_cons, lk_nil, st1_cons, st1_nil, keepE_cons, keepE_nil, D.clean, reduceIte, Nat.reduceEqDiff,
    putF_int, putF_bool, putF_str, putF_sl, putF_agg, putF_tup, putF_pt, putF_clo, putF_err, mvF, moF, tkF, shF, ariF, ciF, catF, scF, ebF, eqF, eqOk, eqPr, enF, notF, ngF, cvF, csF, csbF, cbsF_s, cbsF_o, lenF, lenSF, ixF, iaF, PX.slot, iaAF, atV, atO, faF, ldF, ldC_ints, ldC_ints', ldC_aggc, ldC_cons, D.mem, stF, stG_ints, stG_box, bxF, mkSF, appF_oo, appF_os, ints_app, ints_snoc, ints_length, ints_nil, cut_ints, slcF_o, slcF_s, slc2_eq, slSF_eq, slS2_eq, boundF, Option.map_some, Option.map_none, mkfF_eq, capt_eq, captD_box, captD_pt, extF_eq, extO_eq, List.getElem?_cons_zero, List.getElem?_cons_succ, pickF_t, pickF_f, pickF_p, fldF, mmF2,
    lend_eq, List.map_cons, List.map_nil, D.plain, D.isPure, optAll, dulls_nil, dulls_v, dulls_k, dulls_o, D.dull, callVF, bldF_eq, bldSF_eq, fillD_nil, fillD_cons, splice, D.cells, D.one, List.length_cons, List.length_nil, List.all_cons, List.all_nil, Bool.and_self, Bool.and_true, Bool.true_and, List.take_succ_cons, List.take_zero, List.drop_succ_cons, List.drop_zero, List.nil_append, List.cons_append, List.append_nil, List.drop_nil, List.take_nil, List.replicate_succ, List.replicate_zero, List.flatten_cons, List.flatten_nil, Nat.reduceAdd, Nat.reduceMul, Nat.reduceSub, Nat.reduceLeDiff, Nat.zero_add, Nat.add_zero, Nat.mul_one, Nat.one_mul, Nat.zero_mul, Nat.zero_le, Int.toNat_natCast, Int.toNat_zero, Int.reduceToNat, Nat.sub_zero, Nat.le_refl,
    sets, List.cons.injEq, inR_i64, inR_u64, inR_u32, inR_i32, inR_u8, dB_True, dB_False, dB_neg, dB_beq_true, dB_beq_false, maxLen_eq, true_and, and_true, Bool.not_true, Bool.not_false, Bool.false_eq_true, Bool.not_eq_true, retQ_nrm, retQ_ret, resD_t, resT, Option.some.injEq, D.sl.injEq, D.int.injEq, D.bool.injEq, and_self, ne_eq, not_false_eq_true, not_true_eq_false, forall_const, D.flat, D.flat0, D.simple, Int.reduceLT, Int.reduceLE, Int.reduceEq, Int.reduceNeg, Int.reduceSub, Int.reduceAdd, Int.reduceMul, Int.ofNat_eq_natCast, imp_self, implies_true, false_implies]
    refine ⟨fun hb => ?_, fun hb => ?_⟩
    all_goals
      simp only [List.length_append, List.length_cons, List.length_nil]
      refine ⟨by omega, by omega, by omega, by omega, by omega, by omega, by omega, ?_⟩
      rw [hr, strs_snoc]
      simp [Lay.line, hb]
end Go.Proofs
