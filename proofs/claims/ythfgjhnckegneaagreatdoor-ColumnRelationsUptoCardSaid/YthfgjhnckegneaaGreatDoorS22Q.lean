/-
  SEAT 22: ColumnTexts. Own work.
-/
import Derived.Test.YthfgjhnckegneaaGreatDoorS22P
namespace Go.Proofs
open Go Go.Pi Go.RowKit

theorem ldC_strs {l : List (List UInt8)} {k t : Nat} {N : EP} {E : Env} : ldC false 1 (List.take 1 (List.drop k (strs l))) t N E = (∃ x, l[k]? = some x ∧ N (st1 E t (.str x))) := by
  unfold ldC
  have e0 : List.drop k (strs l) = strs (l.drop k) := by have := rows_drop sD_len k l; rwa [Nat.mul_one] at this
  rw [e0]
  cases h : l[k]? with
  | none =>
    have hk : l.length ≤ k := by simpa using h
    rw [List.drop_eq_nil_of_le hk]; simp [ofCells, rows]
  | some x => rw [drop_cons h]; simp [ofCells, rows, sD, D.one]

theorem Tryz.c15 (l : List (List UInt8)) (hl : l.length ≤ 1000000) : Con Tryz.prog Tryz.L 15 [.sl l.length (strs l), .sl l.length (strs l)] (.bool true) := by
  refine rule15 Tryz.hL rfl rfl rfl ?_
  simp only [pc15, rs15, initE, wC_seq, wC_reg, wC_cnd, wC_blk, wC_loop, wC_exit, wC_skip, wC_ret, wC_bad, GB_eq, zap_nil, zap_cons, lgF_g, lgF_b, sgOF_g, sgOF_b, sgPF_g, sgPF_b, Nat.reduceBNe, Nat.reduceLT, wC_rfn, wC_cus, asgK_nrm, bodK_nrm, wE_nil, wE_none, wE_st, wE_some, regK_eq, seqK_nrm, seqK_exit, seqK_ret, blkK_nrm, blkK_exit, blkK_ret, loopK_nrm, loopK_exit, loopK_ret,
    cndF_t, cndF_f, cndF_p, grdF_t, grdF_f, grdF_s, grdF_pt, grdF_pf, stepF, ev_v, ev_k, ev_o, oev_al, oev_int, oev_sl, oev_str, oev_agg, oev_pt, oev_bool, lk_cons, lk_nil, st1_cons, st1_nil, keepE_cons, keepE_nil, D.clean, reduceIte, Nat.reduceEqDiff,
    putF_int, putF_bool, putF_str, putF_sl, putF_agg, putF_tup, putF_pt, putF_clo, putF_err, mvF, moF, tkF, shF, ariF, ciF, catF, scF, ebF, eqF, eqOk, eqPr, enF, notF, ngF, cvF, csF, csbF, cbsF_s, cbsF_o, lenF, lenSF, ixF, iaF, PX.slot, iaAF, atV, atO, faF, ldF, ldC_ints, ldC_ints', ldC_aggc, ldC_cons, D.mem, stF, stG_ints, stG_box, bxF, mkSF, appF_oo, appF_os, ints_app, ints_snoc, ints_length, ints_nil, cut_ints, slcF_o, slcF_s, slc2_eq, slSF_eq, slS2_eq, boundF, Option.map_some, Option.map_none, mkfF_eq, capt_eq, captD_box, captD_pt, extF_eq, extO_eq, List.getElem?_cons_zero, List.getElem?_cons_succ, pickF_t, pickF_f, pickF_p, fldF, mmF2,
    lend_eq, List.map_cons, List.map_nil, D.plain, D.isPure, optAll, dulls_nil, dulls_v, dulls_k, dulls_o, D.dull, callVF, bldF_eq, bldSF_eq, fillD_nil, fillD_cons, splice, D.cells, D.one, List.length_cons, List.length_nil, List.all_cons, List.all_nil, Bool.and_self, Bool.and_true, Bool.true_and, List.take_succ_cons, List.take_zero, List.drop_succ_cons, List.drop_zero, List.nil_append, List.cons_append, List.append_nil, List.drop_nil, List.take_nil, List.replicate_succ, List.replicate_zero, List.flatten_cons, List.flatten_nil, Nat.reduceAdd, Nat.reduceMul, Nat.reduceSub, Nat.reduceLeDiff, Nat.zero_add, Nat.add_zero, Nat.mul_one, Nat.one_mul, Nat.zero_mul, Nat.zero_le, Int.toNat_natCast, Int.toNat_zero, Int.reduceToNat, Nat.sub_zero, Nat.le_refl,
    sets, List.cons.injEq, inR_i64, inR_u64, inR_u32, inR_i32, inR_u8, dB_True, dB_False, dB_neg, dB_beq_true, dB_beq_false, maxLen_eq, true_and, and_true, Bool.not_true, Bool.not_false, Bool.false_eq_true, Bool.not_eq_true, retQ_nrm, retQ_ret, resD_t, resT, Option.some.injEq, D.sl.injEq, D.int.injEq, D.bool.injEq, and_self, ne_eq, not_false_eq_true, not_true_eq_false, forall_const, D.flat, D.flat0, D.simple, Int.reduceLT, Int.reduceLE, Int.reduceEq, Int.reduceNeg, Int.reduceSub, Int.reduceAdd, Int.reduceMul, Int.ofNat_eq_natCast, imp_self, implies_true, false_implies]
  refine loopF_of (fun E => ∃ k : Nat, k ≤ l.length ∧ E = [(0, .sl l.length (strs l)), (1, .sl l.length (strs l)), (12, .int .i64 l.length), (13, .int .i64 k)])
    (fun E => match lk E 13 with | .int _ i => l.length - i.toNat | _ => 0) ⟨0, Nat.zero_le _, rfl⟩ ?_
  rintro _ ⟨k, hk, rfl⟩
  simp only [initE, wC_seq, wC_reg, wC_cnd, wC_blk, wC_loop, wC_exit, wC_skip, wC_ret, wC_bad, GB_eq, zap_nil, zap_cons, lgF_g, lgF_b, sgOF_g, sgOF_b, sgPF_g, sgPF_b, Nat.reduceBNe, Nat.reduceLT, wC_rfn, wC_cus, asgK_nrm, bodK_nrm, wE_nil, wE_none, wE_st, wE_some, regK_eq, seqK_nrm, seqK_exit, seqK_ret, blkK_nrm, blkK_exit, blkK_ret, loopK_nrm, loopK_exit, loopK_ret,
    cndF_t, cndF_f, cndF_p, grdF_t, grdF_f, grdF_s, grdF_pt, grdF_pf, stepF, ev_v, ev_k, ev_o, oev_al, oev_int, oev_sl, oev_str, oev_agg, oev_pt, oev_bool, lk_cons, lk_nil, st1_cons, st1_nil, keepE_cons, keepE_nil, D.clean, reduceIte, Nat.reduceEqDiff,
    putF_int, putF_bool, putF_str, putF_sl, putF_agg, putF_tup, putF_pt, putF_clo, putF_err, mvF, moF, tkF, shF, ariF, ciF, catF, scF, ebF, eqF, eqOk, eqPr, enF, notF, ngF, cvF, csF, csbF, cbsF_s, cbsF_o, lenF, lenSF, ixF, iaF, PX.slot, iaAF, atV, atO, faF, ldF, ldC_ints, ldC_ints', ldC_aggc, ldC_cons, D.mem, stF, stG_ints, stG_box, bxF, mkSF, appF_oo, appF_os, ints_app, ints_snoc, ints_length, ints_nil, cut_ints, slcF_o, slcF_s, slc2_eq, slSF_eq, slS2_eq, boundF, Option.map_some, Option.map_none, mkfF_eq, capt_eq, captD_box, captD_pt, extF_eq, extO_eq, List.getElem?_cons_zero, List.getElem?_cons_succ, pickF_t, pickF_f, pickF_p, fldF, mmF2,
    lend_eq, List.map_cons, List.map_nil, D.plain, D.isPure, optAll, dulls_nil, dulls_v, dulls_k, dulls_o, D.dull, callVF, bldF_eq, bldSF_eq, fillD_nil, fillD_cons, splice, D.cells, D.one, List.length_cons, List.length_nil, List.all_cons, List.all_nil, Bool.and_self, Bool.and_true, Bool.true_and, List.take_succ_cons, List.take_zero, List.drop_succ_cons, List.drop_zero, List.nil_append, List.cons_append, List.append_nil, List.drop_nil, List.take_nil, List.replicate_succ, List.replicate_zero, List.flatten_cons, List.flatten_nil, Nat.reduceAdd, Nat.reduceMul, Nat.reduceSub, Nat.reduceLeDiff, Nat.zero_add, Nat.add_zero, Nat.mul_one, Nat.one_mul, Nat.zero_mul, Nat.zero_le, Int.toNat_natCast, Int.toNat_zero, Int.reduceToNat, Nat.sub_zero, Nat.le_refl,
    sets, List.cons.injEq, inR_i64, inR_u64, inR_u32, inR_i32, inR_u8, dB_True, dB_False, dB_neg, dB_beq_true, dB_beq_false, maxLen_eq, true_and, and_true, Bool.not_true, Bool.not_false, Bool.false_eq_true, Bool.not_eq_true, retQ_nrm, retQ_ret, resD_t, resT, Option.some.injEq, D.sl.injEq, D.int.injEq, D.bool.injEq, and_self, ne_eq, not_false_eq_true, not_true_eq_false, forall_const, D.flat, D.flat0, D.simple, Int.reduceLT, Int.reduceLE, Int.reduceEq, Int.reduceNeg, Int.reduceSub, Int.reduceAdd, Int.reduceMul, Int.ofNat_eq_natCast, imp_self, implies_true, false_implies, ldC_strs]
  intro h1
  have hx : l[k]? = some (l[k]'(by omega)) := List.getElem?_eq_getElem (by omega)
  generalize l[k]'(by omega) = x at hx
  refine ⟨⟨by omega, by rw [strs_length]; omega⟩, x, hx, ⟨by omega, by rw [strs_length]; omega⟩, x, hx, ?_⟩
  simp only [initE, wC_seq, wC_reg, wC_cnd, wC_blk, wC_loop, wC_exit, wC_skip, wC_ret, wC_bad, GB_eq, zap_nil, zap_cons, lgF_g, lgF_b, sgOF_g, sgOF_b, sgPF_g, sgPF_b, Nat.reduceBNe, Nat.reduceLT, wC_rfn, wC_cus, asgK_nrm, bodK_nrm, wE_nil, wE_none, wE_st, wE_some, regK_eq, seqK_nrm, seqK_exit, seqK_ret, blkK_nrm, blkK_exit, blkK_ret, loopK_nrm, loopK_exit, loopK_ret,
    cndF_t, cndF_f, cndF_p, grdF_t, grdF_f, grdF_s, grdF_pt, grdF_pf, stepF, ev_v, ev_k, ev_o, oev_al, oev_int, oev_sl, oev_str, oev_agg, oev_pt, oev_bool, lk_cons, lk_nil, st1_cons, st1_nil, keepE_cons, keepE_nil, D.clean, reduceIte, Nat.reduceEqDiff,
    putF_int, putF_bool, putF_str, putF_sl, putF_agg, putF_tup, putF_pt, putF_clo, putF_err, mvF, moF, tkF, shF, ariF, ciF, catF, scF, ebF, eqF, eqOk, eqPr, enF, notF, ngF, cvF, csF, csbF, cbsF_s, cbsF_o, lenF, lenSF, ixF, iaF, PX.slot, iaAF, atV, atO, faF, ldF, ldC_ints, ldC_ints', ldC_aggc, ldC_cons, D.mem, stF, stG_ints, stG_box, bxF, mkSF, appF_oo, appF_os, ints_app, ints_snoc, ints_length, ints_nil, cut_ints, slcF_o, slcF_s, slc2_eq, slSF_eq, slS2_eq, boundF, Option.map_some, Option.map_none, mkfF_eq, capt_eq, captD_box, captD_pt, extF_eq, extO_eq, List.getElem?_cons_zero, List.getElem?_cons_succ, pickF_t, pickF_f, pickF_p, fldF, mmF2,
    lend_eq, List.map_cons, List.map_nil, D.plain, D.isPure, optAll, dulls_nil, dulls_v, dulls_k, dulls_o, D.dull, callVF, bldF_eq, bldSF_eq, fillD_nil, fillD_cons, splice, D.cells, D.one, List.length_cons, List.length_nil, List.all_cons, List.all_nil, Bool.and_self, Bool.and_true, Bool.true_and, List.take_succ_cons, List.take_zero, List.drop_succ_cons, List.drop_zero, List.nil_append, List.cons_append, List.append_nil, List.drop_nil, List.take_nil, List.replicate_succ, List.replicate_zero, List.flatten_cons, List.flatten_nil, Nat.reduceAdd, Nat.reduceMul, Nat.reduceSub, Nat.reduceLeDiff, Nat.zero_add, Nat.add_zero, Nat.mul_one, Nat.one_mul, Nat.zero_mul, Nat.zero_le, Int.toNat_natCast, Int.toNat_zero, Int.reduceToNat, Nat.sub_zero, Nat.le_refl,
    sets, List.cons.injEq, inR_i64, inR_u64, inR_u32, inR_i32, inR_u8, dB_True, dB_False, dB_neg, dB_beq_true, dB_beq_false, maxLen_eq, true_and, and_true, Bool.not_true, Bool.not_false, Bool.false_eq_true, Bool.not_eq_true, retQ_nrm, retQ_ret, resD_t, resT, Option.some.injEq, D.sl.injEq, D.int.injEq, D.bool.injEq, and_self, ne_eq, not_false_eq_true, not_true_eq_false, forall_const, D.flat, D.flat0, D.simple, Int.reduceLT, Int.reduceLE, Int.reduceEq, Int.reduceNeg, Int.reduceSub, Int.reduceAdd, Int.reduceMul, Int.ofNat_eq_natCast, imp_self, implies_true, false_implies]
  exact ⟨by omega, ⟨k + 1, by omega, rfl⟩, by omega⟩

theorem idxA_ge {α : Type} {p : α → Bool} : ∀ {l : List α} {k : Nat}, ¬ 0 ≤ idxA p l k → ∀ x ∈ l, p x = false
  | [], _, _ => fun x hx => by cases hx
  | y :: l, k, h => by
    simp only [idxA] at h
    cases hy : p y with
    | true => rw [hy] at h; exact absurd (show (0 : Int) ≤ (k : Int) by omega) h
    | false =>
      rw [hy] at h
      intro x hx
      rcases List.mem_cons.1 hx with rfl | hx
      · exact hy
      · exact idxA_ge h x hx

/-- what is known of the columns of plans -/
structure ColOk (l : List Lay) : Prop where
  len : l.length ≤ 4
  lay : ∀ x ∈ l, ∃ k a b, k < 6 ∧ a < 4 ∧ b < 8 ∧ x = layOf k a b
  nd : (l.map Lay.u).Nodup

theorem mkStep_ok (p : Pl) {out : List Lay} (x : Int) (h : ColOk out) : ColOk (mkStep p out x) := by
  unfold mkStep
  split
  · exact h
  · rename_i hn
    simp only [not_or] at hn
    refine ⟨?_, ?_, ?_⟩
    · rw [List.length_append, List.length_singleton]; have := h.len; omega
    · intro y hy
      rcases List.mem_append.1 hy with hy | hy
      · exact h.lay y hy
      · rw [List.mem_singleton.1 hy]
        exact ⟨_, _, _, by omega, l84 _, l8 _, rfl⟩
    · rw [List.map_append, List.nodup_append]
      refine ⟨h.nd, by simp, ?_⟩
      intro a ha b hb e
      subst e
      simp only [List.map_cons, List.map_nil, List.mem_singleton] at hb
      obtain ⟨y, hy, rfl⟩ := List.mem_map.1 ha
      have := idxA_ge hn.2 y hy
      rw [beq_eq_false_iff_ne] at this
      exact this hb

theorem foldl_ok (p : Pl) : ∀ (l : List Int) (out : List Lay), ColOk out → ColOk (l.foldl (mkStep p) out)
  | [], _, h => h
  | x :: l, _, h => foldl_ok p l _ (mkStep_ok p x h)

theorem Pl.make_ok (p : Pl) : ColOk p.make := foldl_ok p _ _ ⟨Nat.zero_le _, fun x h => (by cases h), List.nodup_nil⟩
theorem Pl.make_pos (p : Pl) : 0 < p.make.length := by
  unfold Pl.make
  rw [List.foldl_append]
  simp only [List.foldl_cons, List.foldl_nil]
  generalize List.foldl (mkStep p) [] p.us = out
  unfold mkStep
  split
  · rename_i h
    rcases h with h | h
    · omega
    · cases out with
      | nil => simp [idx, idxA] at h
      | cons a l => simp
  · simp

theorem ColOk.small {l : List Lay} (h : ColOk l) : ∀ x ∈ l, x.small := fun x hx => by
  obtain ⟨k, a, b, _, _, _, rfl⟩ := h.lay x hx; exact layOf_small k a b
theorem ColOk.layOk {l : List Lay} (h : ColOk l) : ∀ x ∈ l, LayOk x := fun x hx => by
  obtain ⟨k, a, b, h1, h2, h3, rfl⟩ := h.lay x hx; exact layOf_ok k a b h1 h2 h3
theorem ColOk.check {l : List Lay} (h : ColOk l) (h0 : 0 < l.length) : Con Tryz.prog Tryz.L 45 [.sl l.length (lays l)] (.int .i64 0) :=
  Tryz.c45 l h0 (by have := h.len; omega) h.nd h.layOk

theorem Tryz.c3 (p : Pl) (hp : p.ok) : Con Tryz.prog Tryz.L 3 [p.d] (.bool true) := by
  refine rule3 Tryz.hL (fun q hq => by simp [PC.backs, pc3] at hq; subst hq; exact back53) rfl rfl rfl ?_
  simp only [pc3, rs3, Pl.d, initE, wC_seq, wC_reg, wC_cnd, wC_blk, wC_loop, wC_exit, wC_skip, wC_ret, wC_bad, GB_eq, zap_nil, zap_cons, lgF_g, lgF_b, sgOF_g, sgOF_b, sgPF_g, sgPF_b, Nat.reduceBNe, Nat.reduceLT, wC_rfn, wC_cus, asgK_nrm, bodK_nrm, wE_nil, wE_none, wE_st, wE_some, regK_eq, seqK_nrm, seqK_exit, seqK_ret, blkK_nrm, blkK_exit, blkK_ret, loopK_nrm, loopK_exit, loopK_ret,
    cndF_t, cndF_f, cndF_p, grdF_t, grdF_f, grdF_s, grdF_pt, grdF_pf, stepF, ev_v, ev_k, ev_o, oev_al, oev_int, oev_sl, oev_str, oev_agg, oev_pt, oev_bool, lk_cons, lk_nil, st1_cons, st1_nil, keepE_cons, keepE_nil, D.clean, reduceIte, Nat.reduceEqDiff,
    putF_int, putF_bool, putF_str, putF_sl, putF_agg, putF_tup, putF_pt, putF_clo, putF_err, mvF, moF, tkF, shF, ariF, ciF, catF, scF, ebF, eqF, eqOk, eqPr, enF, notF, ngF, cvF, csF, csbF, cbsF_s, cbsF_o, lenF, lenSF, ixF, iaF, PX.slot, iaAF, atV, atO, faF, ldF, ldC_ints, ldC_ints', ldC_aggc, ldC_cons, D.mem, stF, stG_ints, stG_box, bxF, mkSF, appF_oo, appF_os, ints_app, ints_snoc, ints_length, ints_nil, cut_ints, slcF_o, slcF_s, slc2_eq, slSF_eq, slS2_eq, boundF, Option.map_some, Option.map_none, mkfF_eq, capt_eq, captD_box, captD_pt, extF_eq, extO_eq, List.getElem?_cons_zero, List.getElem?_cons_succ, pickF_t, pickF_f, pickF_p, fldF, mmF2,
    lend_eq, List.map_cons, List.map_nil, D.plain, D.isPure, optAll, dulls_nil, dulls_v, dulls_k, dulls_o, D.dull, callVF, bldF_eq, bldSF_eq, fillD_nil, fillD_cons, splice, D.cells, D.one, List.length_cons, List.length_nil, List.all_cons, List.all_nil, Bool.and_self, Bool.and_true, Bool.true_and, List.take_succ_cons, List.take_zero, List.drop_succ_cons, List.drop_zero, List.nil_append, List.cons_append, List.append_nil, List.drop_nil, List.take_nil, List.replicate_succ, List.replicate_zero, List.flatten_cons, List.flatten_nil, Nat.reduceAdd, Nat.reduceMul, Nat.reduceSub, Nat.reduceLeDiff, Nat.zero_add, Nat.add_zero, Nat.mul_one, Nat.one_mul, Nat.zero_mul, Nat.zero_le, Int.toNat_natCast, Int.toNat_zero, Int.reduceToNat, Nat.sub_zero, Nat.le_refl,
    sets, List.cons.injEq, inR_i64, inR_u64, inR_u32, inR_i32, inR_u8, dB_True, dB_False, dB_neg, dB_beq_true, dB_beq_false, maxLen_eq, true_and, and_true, Bool.not_true, Bool.not_false, Bool.false_eq_true, Bool.not_eq_true, retQ_nrm, retQ_ret, resD_t, resT, Option.some.injEq, D.sl.injEq, D.int.injEq, D.bool.injEq, and_self, ne_eq, not_false_eq_true, not_true_eq_false, forall_const, D.flat, D.flat0, D.simple, Int.reduceLT, Int.reduceLE, Int.reduceEq, Int.reduceNeg, Int.reduceSub, Int.reduceAdd, Int.reduceMul, Int.ofNat_eq_natCast, imp_self, implies_true, false_implies]
  refine callF_of Tryz.c11 ?_
  simp only [initE, wC_seq, wC_reg, wC_cnd, wC_blk, wC_loop, wC_exit, wC_skip, wC_ret, wC_bad, GB_eq, zap_nil, zap_cons, lgF_g, lgF_b, sgOF_g, sgOF_b, sgPF_g, sgPF_b, Nat.reduceBNe, Nat.reduceLT, wC_rfn, wC_cus, asgK_nrm, bodK_nrm, wE_nil, wE_none, wE_st, wE_some, regK_eq, seqK_nrm, seqK_exit, seqK_ret, blkK_nrm, blkK_exit, blkK_ret, loopK_nrm, loopK_exit, loopK_ret,
    cndF_t, cndF_f, cndF_p, grdF_t, grdF_f, grdF_s, grdF_pt, grdF_pf, stepF, ev_v, ev_k, ev_o, oev_al, oev_int, oev_sl, oev_str, oev_agg, oev_pt, oev_bool, lk_cons, lk_nil, st1_cons, st1_nil, keepE_cons, keepE_nil, D.clean, reduceIte, Nat.reduceEqDiff,
    putF_int, putF_bool, putF_str, putF_sl, putF_agg, putF_tup, putF_pt, putF_clo, putF_err, mvF, moF, tkF, shF, ariF, ciF, catF, scF, ebF, eqF, eqOk, eqPr, enF, notF, ngF, cvF, csF, csbF, cbsF_s, cbsF_o, lenF, lenSF, ixF, iaF, PX.slot, iaAF, atV, atO, faF, ldF, ldC_ints, ldC_ints', ldC_aggc, ldC_cons, D.mem, stF, stG_ints, stG_box, bxF, mkSF, appF_oo, appF_os, ints_app, ints_snoc, ints_length, ints_nil, cut_ints, slcF_o, slcF_s, slc2_eq, slSF_eq, slS2_eq, boundF, Option.map_some, Option.map_none, mkfF_eq, capt_eq, captD_box, captD_pt, extF_eq, extO_eq, List.getElem?_cons_zero, List.getElem?_cons_succ, pickF_t, pickF_f, pickF_p, fldF, mmF2,
    lend_eq, List.map_cons, List.map_nil, D.plain, D.isPure, optAll, dulls_nil, dulls_v, dulls_k, dulls_o, D.dull, callVF, bldF_eq, bldSF_eq, fillD_nil, fillD_cons, splice, D.cells, D.one, List.length_cons, List.length_nil, List.all_cons, List.all_nil, Bool.and_self, Bool.and_true, Bool.true_and, List.take_succ_cons, List.take_zero, List.drop_succ_cons, List.drop_zero, List.nil_append, List.cons_append, List.append_nil, List.drop_nil, List.take_nil, List.replicate_succ, List.replicate_zero, List.flatten_cons, List.flatten_nil, Nat.reduceAdd, Nat.reduceMul, Nat.reduceSub, Nat.reduceLeDiff, Nat.zero_add, Nat.add_zero, Nat.mul_one, Nat.one_mul, Nat.zero_mul, Nat.zero_le, Int.toNat_natCast, Int.toNat_zero, Int.reduceToNat, Nat.sub_zero, Nat.le_refl,
    sets, List.cons.injEq, inR_i64, inR_u64, inR_u32, inR_i32, inR_u8, dB_True, dB_False, dB_neg, dB_beq_true, dB_beq_false, maxLen_eq, true_and, and_true, Bool.not_true, Bool.not_false, Bool.false_eq_true, Bool.not_eq_true, retQ_nrm, retQ_ret, resD_t, resT, Option.some.injEq, D.sl.injEq, D.int.injEq, D.bool.injEq, and_self, ne_eq, not_false_eq_true, not_true_eq_false, forall_const, D.flat, D.flat0, D.simple, Int.reduceLT, Int.reduceLE, Int.reduceEq, Int.reduceNeg, Int.reduceSub, Int.reduceAdd, Int.reduceMul, Int.ofNat_eq_natCast, imp_self, implies_true, false_implies]
  refine callF_of (Tryz.c12 p hp) ?_
  simp only [initE, wC_seq, wC_reg, wC_cnd, wC_blk, wC_loop, wC_exit, wC_skip, wC_ret, wC_bad, GB_eq, zap_nil, zap_cons, lgF_g, lgF_b, sgOF_g, sgOF_b, sgPF_g, sgPF_b, Nat.reduceBNe, Nat.reduceLT, wC_rfn, wC_cus, asgK_nrm, bodK_nrm, wE_nil, wE_none, wE_st, wE_some, regK_eq, seqK_nrm, seqK_exit, seqK_ret, blkK_nrm, blkK_exit, blkK_ret, loopK_nrm, loopK_exit, loopK_ret,
    cndF_t, cndF_f, cndF_p, grdF_t, grdF_f, grdF_s, grdF_pt, grdF_pf, stepF, ev_v, ev_k, ev_o, oev_al, oev_int, oev_sl, oev_str, oev_agg, oev_pt, oev_bool, lk_cons, lk_nil, st1_cons, st1_nil, keepE_cons, keepE_nil, D.clean, reduceIte, Nat.reduceEqDiff,
    putF_int, putF_bool, putF_str, putF_sl, putF_agg, putF_tup, putF_pt, putF_clo, putF_err, mvF, moF, tkF, shF, ariF, ciF, catF, scF, ebF, eqF, eqOk, eqPr, enF, notF, ngF, cvF, csF, csbF, cbsF_s, cbsF_o, lenF, lenSF, ixF, iaF, PX.slot, iaAF, atV, atO, faF, ldF, ldC_ints, ldC_ints', ldC_aggc, ldC_cons, D.mem, stF, stG_ints, stG_box, bxF, mkSF, appF_oo, appF_os, ints_app, ints_snoc, ints_length, ints_nil, cut_ints, slcF_o, slcF_s, slc2_eq, slSF_eq, slS2_eq, boundF, Option.map_some, Option.map_none, mkfF_eq, capt_eq, captD_box, captD_pt, extF_eq, extO_eq, List.getElem?_cons_zero, List.getElem?_cons_succ, pickF_t, pickF_f, pickF_p, fldF, mmF2,
    lend_eq, List.map_cons, List.map_nil, D.plain, D.isPure, optAll, dulls_nil, dulls_v, dulls_k, dulls_o, D.dull, callVF, bldF_eq, bldSF_eq, fillD_nil, fillD_cons, splice, D.cells, D.one, List.length_cons, List.length_nil, List.all_cons, List.all_nil, Bool.and_self, Bool.and_true, Bool.true_and, List.take_succ_cons, List.take_zero, List.drop_succ_cons, List.drop_zero, List.nil_append, List.cons_append, List.append_nil, List.drop_nil, List.take_nil, List.replicate_succ, List.replicate_zero, List.flatten_cons, List.flatten_nil, Nat.reduceAdd, Nat.reduceMul, Nat.reduceSub, Nat.reduceLeDiff, Nat.zero_add, Nat.add_zero, Nat.mul_one, Nat.one_mul, Nat.zero_mul, Nat.zero_le, Int.toNat_natCast, Int.toNat_zero, Int.reduceToNat, Nat.sub_zero, Nat.le_refl,
    sets, List.cons.injEq, inR_i64, inR_u64, inR_u32, inR_i32, inR_u8, dB_True, dB_False, dB_neg, dB_beq_true, dB_beq_false, maxLen_eq, true_and, and_true, Bool.not_true, Bool.not_false, Bool.false_eq_true, Bool.not_eq_true, retQ_nrm, retQ_ret, resD_t, resT, Option.some.injEq, D.sl.injEq, D.int.injEq, D.bool.injEq, and_self, ne_eq, not_false_eq_true, not_true_eq_false, forall_const, D.flat, D.flat0, D.simple, Int.reduceLT, Int.reduceLE, Int.reduceEq, Int.reduceNeg, Int.reduceSub, Int.reduceAdd, Int.reduceMul, Int.ofNat_eq_natCast, imp_self, implies_true, false_implies]
  have hok := p.make_ok
  have hpos := p.make_pos
  have hlen := hok.len
  have hsm := hok.small
  refine callF_of (Tryz.c13 p.make hsm (by omega) (hok.check hpos)) ?_
  simp only [initE, wC_seq, wC_reg, wC_cnd, wC_blk, wC_loop, wC_exit, wC_skip, wC_ret, wC_bad, GB_eq, zap_nil, zap_cons, lgF_g, lgF_b, sgOF_g, sgOF_b, sgPF_g, sgPF_b, Nat.reduceBNe, Nat.reduceLT, wC_rfn, wC_cus, asgK_nrm, bodK_nrm, wE_nil, wE_none, wE_st, wE_some, regK_eq, seqK_nrm, seqK_exit, seqK_ret, blkK_nrm, blkK_exit, blkK_ret, loopK_nrm, loopK_exit, loopK_ret,
    cndF_t, cndF_f, cndF_p, grdF_t, grdF_f, grdF_s, grdF_pt, grdF_pf, stepF, ev_v, ev_k, ev_o, oev_al, oev_int, oev_sl, oev_str, oev_agg, oev_pt, oev_bool, lk_cons, lk_nil, st1_cons, st1_nil, keepE_cons, keepE_nil, D.clean, reduceIte, Nat.reduceEqDiff,
    putF_int, putF_bool, putF_str, putF_sl, putF_agg, putF_tup, putF_pt, putF_clo, putF_err, mvF, moF, tkF, shF, ariF, ciF, catF, scF, ebF, eqF, eqOk, eqPr, enF, notF, ngF, cvF, csF, csbF, cbsF_s, cbsF_o, lenF, lenSF, ixF, iaF, PX.slot, iaAF, atV, atO, faF, ldF, ldC_ints, ldC_ints', ldC_aggc, ldC_cons, D.mem, stF, stG_ints, stG_box, bxF, mkSF, appF_oo, appF_os, ints_app, ints_snoc, ints_length, ints_nil, cut_ints, slcF_o, slcF_s, slc2_eq, slSF_eq, slS2_eq, boundF, Option.map_some, Option.map_none, mkfF_eq, capt_eq, captD_box, captD_pt, extF_eq, extO_eq, List.getElem?_cons_zero, List.getElem?_cons_succ, pickF_t, pickF_f, pickF_p, fldF, mmF2,
    lend_eq, List.map_cons, List.map_nil, D.plain, D.isPure, optAll, dulls_nil, dulls_v, dulls_k, dulls_o, D.dull, callVF, bldF_eq, bldSF_eq, fillD_nil, fillD_cons, splice, D.cells, D.one, List.length_cons, List.length_nil, List.all_cons, List.all_nil, Bool.and_self, Bool.and_true, Bool.true_and, List.take_succ_cons, List.take_zero, List.drop_succ_cons, List.drop_zero, List.nil_append, List.cons_append, List.append_nil, List.drop_nil, List.take_nil, List.replicate_succ, List.replicate_zero, List.flatten_cons, List.flatten_nil, Nat.reduceAdd, Nat.reduceMul, Nat.reduceSub, Nat.reduceLeDiff, Nat.zero_add, Nat.add_zero, Nat.mul_one, Nat.one_mul, Nat.zero_mul, Nat.zero_le, Int.toNat_natCast, Int.toNat_zero, Int.reduceToNat, Nat.sub_zero, Nat.le_refl,
    sets, List.cons.injEq, inR_i64, inR_u64, inR_u32, inR_i32, inR_u8, dB_True, dB_False, dB_neg, dB_beq_true, dB_beq_false, maxLen_eq, true_and, and_true, Bool.not_true, Bool.not_false, Bool.false_eq_true, Bool.not_eq_true, retQ_nrm, retQ_ret, resD_t, resT, Option.some.injEq, D.sl.injEq, D.int.injEq, D.bool.injEq, and_self, ne_eq, not_false_eq_true, not_true_eq_false, forall_const, D.flat, D.flat0, D.simple, Int.reduceLT, Int.reduceLE, Int.reduceEq, Int.reduceNeg, Int.reduceSub, Int.reduceAdd, Int.reduceMul, Int.ofNat_eq_natCast, imp_self, implies_true, false_implies]
  refine callF_of (Tryz.c14 _ _) ?_
  simp only [initE, wC_seq, wC_reg, wC_cnd, wC_blk, wC_loop, wC_exit, wC_skip, wC_ret, wC_bad, GB_eq, zap_nil, zap_cons, lgF_g, lgF_b, sgOF_g, sgOF_b, sgPF_g, sgPF_b, Nat.reduceBNe, Nat.reduceLT, wC_rfn, wC_cus, asgK_nrm, bodK_nrm, wE_nil, wE_none, wE_st, wE_some, regK_eq, seqK_nrm, seqK_exit, seqK_ret, blkK_nrm, blkK_exit, blkK_ret, loopK_nrm, loopK_exit, loopK_ret,
    cndF_t, cndF_f, cndF_p, grdF_t, grdF_f, grdF_s, grdF_pt, grdF_pf, stepF, ev_v, ev_k, ev_o, oev_al, oev_int, oev_sl, oev_str, oev_agg, oev_pt, oev_bool, lk_cons, lk_nil, st1_cons, st1_nil, keepE_cons, keepE_nil, D.clean, reduceIte, Nat.reduceEqDiff,
    putF_int, putF_bool, putF_str, putF_sl, putF_agg, putF_tup, putF_pt, putF_clo, putF_err, mvF, moF, tkF, shF, ariF, ciF, catF, scF, ebF, eqF, eqOk, eqPr, enF, notF, ngF, cvF, csF, csbF, cbsF_s, cbsF_o, lenF, lenSF, ixF, iaF, PX.slot, iaAF, atV, atO, faF, ldF, ldC_ints, ldC_ints', ldC_aggc, ldC_cons, D.mem, stF, stG_ints, stG_box, bxF, mkSF, appF_oo, appF_os, ints_app, ints_snoc, ints_length, ints_nil, cut_ints, slcF_o, slcF_s, slc2_eq, slSF_eq, slS2_eq, boundF, Option.map_some, Option.map_none, mkfF_eq, capt_eq, captD_box, captD_pt, extF_eq, extO_eq, List.getElem?_cons_zero, List.getElem?_cons_succ, pickF_t, pickF_f, pickF_p, fldF, mmF2,
    lend_eq, List.map_cons, List.map_nil, D.plain, D.isPure, optAll, dulls_nil, dulls_v, dulls_k, dulls_o, D.dull, callVF, bldF_eq, bldSF_eq, fillD_nil, fillD_cons, splice, D.cells, D.one, List.length_cons, List.length_nil, List.all_cons, List.all_nil, Bool.and_self, Bool.and_true, Bool.true_and, List.take_succ_cons, List.take_zero, List.drop_succ_cons, List.drop_zero, List.nil_append, List.cons_append, List.append_nil, List.drop_nil, List.take_nil, List.replicate_succ, List.replicate_zero, List.flatten_cons, List.flatten_nil, Nat.reduceAdd, Nat.reduceMul, Nat.reduceSub, Nat.reduceLeDiff, Nat.zero_add, Nat.add_zero, Nat.mul_one, Nat.one_mul, Nat.zero_mul, Nat.zero_le, Int.toNat_natCast, Int.toNat_zero, Int.reduceToNat, Nat.sub_zero, Nat.le_refl,
    sets, List.cons.injEq, inR_i64, inR_u64, inR_u32, inR_i32, inR_u8, dB_True, dB_False, dB_neg, dB_beq_true, dB_beq_false, maxLen_eq, true_and, and_true, Bool.not_true, Bool.not_false, Bool.false_eq_true, Bool.not_eq_true, retQ_nrm, retQ_ret, resD_t, resT, Option.some.injEq, D.sl.injEq, D.int.injEq, D.bool.injEq, and_self, ne_eq, not_false_eq_true, not_true_eq_false, forall_const, D.flat, D.flat0, D.simple, Int.reduceLT, Int.reduceLE, Int.reduceEq, Int.reduceNeg, Int.reduceSub, Int.reduceAdd, Int.reduceMul, Int.ofNat_eq_natCast, imp_self, implies_true, false_implies]
  generalize p.make = l at hok hpos hlen hsm
  refine rfnF_of (fun k E => ∃ hk : k ≤ l.length, E = [(4, .sl l.length (strs (l.reverse.map Lay.line))), (5, .int .i64 0), (6, .gbox 1000006), (20, .clo 53 [.pt [.sl l.length (lays l)]]), (1000006, .own true 9 k (strs ((l.reverse.map Lay.line).take k)))])
    (by rw [rows_length Lay.d_len]) ⟨Nat.zero_le _, rfl⟩ (fun k E1 hE => by obtain ⟨_, rfl⟩ := hE; rfl) ?_ ?_
  · rintro _ ⟨_, rfl⟩
    simp only [initE, wC_seq, wC_reg, wC_cnd, wC_blk, wC_loop, wC_exit, wC_skip, wC_ret, wC_bad, GB_eq, zap_nil, zap_cons, lgF_g, lgF_b, sgOF_g, sgOF_b, sgPF_g, sgPF_b, Nat.reduceBNe, Nat.reduceLT, wC_rfn, wC_cus, asgK_nrm, bodK_nrm, wE_nil, wE_none, wE_st, wE_some, regK_eq, seqK_nrm, seqK_exit, seqK_ret, blkK_nrm, blkK_exit, blkK_ret, loopK_nrm, loopK_exit, loopK_ret,
    cndF_t, cndF_f, cndF_p, grdF_t, grdF_f, grdF_s, grdF_pt, grdF_pf, stepF, ev_v, ev_k, ev_o, oev_al, oev_int, oev_sl, oev_str, oev_agg, oev_pt, oev_bool, lk_cons, lk_nil, st1_cons, st1_nil, keepE_cons, keepE_nil, D.clean, reduceIte, Nat.reduceEqDiff,
    putF_int, putF_bool, putF_str, putF_sl, putF_agg, putF_tup, putF_pt, putF_clo, putF_err, mvF, moF, tkF, shF, ariF, ciF, catF, scF, ebF, eqF, eqOk, eqPr, enF, notF, ngF, cvF, csF, csbF, cbsF_s, cbsF_o, lenF, lenSF, ixF, iaF, PX.slot, iaAF, atV, atO, faF, ldF, ldC_ints, ldC_ints', ldC_aggc, ldC_cons, D.mem, stF, stG_ints, stG_box, bxF, mkSF, appF_oo, appF_os, ints_app, ints_snoc, ints_length, ints_nil, cut_ints, slcF_o, slcF_s, slc2_eq, slSF_eq, slS2_eq, boundF, Option.map_some, Option.map_none, mkfF_eq, capt_eq, captD_box, captD_pt, extF_eq, extO_eq, List.getElem?_cons_zero, List.getElem?_cons_succ, pickF_t, pickF_f, pickF_p, fldF, mmF2,
    lend_eq, List.map_cons, List.map_nil, D.plain, D.isPure, optAll, dulls_nil, dulls_v, dulls_k, dulls_o, D.dull, callVF, bldF_eq, bldSF_eq, fillD_nil, fillD_cons, splice, D.cells, D.one, List.length_cons, List.length_nil, List.all_cons, List.all_nil, Bool.and_self, Bool.and_true, Bool.true_and, List.take_succ_cons, List.take_zero, List.drop_succ_cons, List.drop_zero, List.nil_append, List.cons_append, List.append_nil, List.drop_nil, List.take_nil, List.replicate_succ, List.replicate_zero, List.flatten_cons, List.flatten_nil, Nat.reduceAdd, Nat.reduceMul, Nat.reduceSub, Nat.reduceLeDiff, Nat.zero_add, Nat.add_zero, Nat.mul_one, Nat.one_mul, Nat.zero_mul, Nat.zero_le, Int.toNat_natCast, Int.toNat_zero, Int.reduceToNat, Nat.sub_zero, Nat.le_refl,
    sets, List.cons.injEq, inR_i64, inR_u64, inR_u32, inR_i32, inR_u8, dB_True, dB_False, dB_neg, dB_beq_true, dB_beq_false, maxLen_eq, true_and, and_true, Bool.not_true, Bool.not_false, Bool.false_eq_true, Bool.not_eq_true, retQ_nrm, retQ_ret, resD_t, resT, Option.some.injEq, D.sl.injEq, D.int.injEq, D.bool.injEq, and_self, ne_eq, not_false_eq_true, not_true_eq_false, forall_const, D.flat, D.flat0, D.simple, Int.reduceLT, Int.reduceLE, Int.reduceEq, Int.reduceNeg, Int.reduceSub, Int.reduceAdd, Int.reduceMul, Int.ofNat_eq_natCast, imp_self, implies_true, false_implies]
    rw [List.take_of_length_le (by simp)]
    have h15 := Tryz.c15 (l.reverse.map Lay.line) (by simp; omega)
    rw [show (l.reverse.map Lay.line).length = l.length by simp] at h15
    refine callF_of h15 ?_
    simp only [initE, wC_seq, wC_reg, wC_cnd, wC_blk, wC_loop, wC_exit, wC_skip, wC_ret, wC_bad, GB_eq, zap_nil, zap_cons, lgF_g, lgF_b, sgOF_g, sgOF_b, sgPF_g, sgPF_b, Nat.reduceBNe, Nat.reduceLT, wC_rfn, wC_cus, asgK_nrm, bodK_nrm, wE_nil, wE_none, wE_st, wE_some, regK_eq, seqK_nrm, seqK_exit, seqK_ret, blkK_nrm, blkK_exit, blkK_ret, loopK_nrm, loopK_exit, loopK_ret,
    cndF_t, cndF_f, cndF_p, grdF_t, grdF_f, grdF_s, grdF_pt, grdF_pf, stepF, ev_v, ev_k, ev_o, oev_al, oev_int, oev_sl, oev_str, oev_agg, oev_pt, oev_bool, lk_cons, lk_nil, st1_cons, st1_nil, keepE_cons, keepE_nil, D.clean, reduceIte, Nat.reduceEqDiff,
    putF_int, putF_bool, putF_str, putF_sl, putF_agg, putF_tup, putF_pt, putF_clo, putF_err, mvF, moF, tkF, shF, ariF, ciF, catF, scF, ebF, eqF, eqOk, eqPr, enF, notF, ngF, cvF, csF, csbF, cbsF_s, cbsF_o, lenF, lenSF, ixF, iaF, PX.slot, iaAF, atV, atO, faF, ldF, ldC_ints, ldC_ints', ldC_aggc, ldC_cons, D.mem, stF, stG_ints, stG_box, bxF, mkSF, appF_oo, appF_os, ints_app, ints_snoc, ints_length, ints_nil, cut_ints, slcF_o, slcF_s, slc2_eq, slSF_eq, slS2_eq, boundF, Option.map_some, Option.map_none, mkfF_eq, capt_eq, captD_box, captD_pt, extF_eq, extO_eq, List.getElem?_cons_zero, List.getElem?_cons_succ, pickF_t, pickF_f, pickF_p, fldF, mmF2,
    lend_eq, List.map_cons, List.map_nil, D.plain, D.isPure, optAll, dulls_nil, dulls_v, dulls_k, dulls_o, D.dull, callVF, bldF_eq, bldSF_eq, fillD_nil, fillD_cons, splice, D.cells, D.one, List.length_cons, List.length_nil, List.all_cons, List.all_nil, Bool.and_self, Bool.and_true, Bool.true_and, List.take_succ_cons, List.take_zero, List.drop_succ_cons, List.drop_zero, List.nil_append, List.cons_append, List.append_nil, List.drop_nil, List.take_nil, List.replicate_succ, List.replicate_zero, List.flatten_cons, List.flatten_nil, Nat.reduceAdd, Nat.reduceMul, Nat.reduceSub, Nat.reduceLeDiff, Nat.zero_add, Nat.add_zero, Nat.mul_one, Nat.one_mul, Nat.zero_mul, Nat.zero_le, Int.toNat_natCast, Int.toNat_zero, Int.reduceToNat, Nat.sub_zero, Nat.le_refl,
    sets, List.cons.injEq, inR_i64, inR_u64, inR_u32, inR_i32, inR_u8, dB_True, dB_False, dB_neg, dB_beq_true, dB_beq_false, maxLen_eq, true_and, and_true, Bool.not_true, Bool.not_false, Bool.false_eq_true, Bool.not_eq_true, retQ_nrm, retQ_ret, resD_t, resT, Option.some.injEq, D.sl.injEq, D.int.injEq, D.bool.injEq, and_self, ne_eq, not_false_eq_true, not_true_eq_false, forall_const, D.flat, D.flat0, D.simple, Int.reduceLT, Int.reduceLE, Int.reduceEq, Int.reduceNeg, Int.reduceSub, Int.reduceAdd, Int.reduceMul, Int.ofNat_eq_natCast, imp_self, implies_true, false_implies]
  · rintro k _ hkm ⟨hk, rfl⟩
    have hx : l[l.length - 1 - k]? = some (l[l.length - 1 - k]'(by omega)) := List.getElem?_eq_getElem (by omega)
    have hr : (l.reverse.map Lay.line).take (k + 1) = (l.reverse.map Lay.line).take k ++ [(l[l.length - 1 - k]'(by omega)).line] := by
      rw [List.take_succ_eq_append_getElem (by simpa using hkm)]
      simp [List.getElem_reverse]
    have hsm := hsm _ (List.mem_of_getElem? hx)
    generalize l[l.length - 1 - k]'(by omega) = x at hx hr hsm
    refine ⟨_, ofCells_rows Lay.d_len hx, rfl, ?_⟩
    obtain ⟨h1, h2, h3⟩ := hsm
    simp only [Lay.d, initE, wC_seq, wC_reg, wC_cnd, wC_blk, wC_loop, wC_exit, wC_skip, wC_ret, wC_bad, GB_eq, zap_nil, zap_cons, lgF_g, lgF_b, sgOF_g, sgOF_b, sgPF_g, sgPF_b, Nat.reduceBNe, Nat.reduceLT, wC_rfn, wC_cus, asgK_nrm, bodK_nrm, wE_nil, wE_none, wE_st, wE_some, regK_eq, seqK_nrm, seqK_exit, seqK_ret, blkK_nrm, blkK_exit, blkK_ret, loopK_nrm, loopK_exit, loopK_ret,
    cndF_t, cndF_f, cndF_p, grdF_t, grdF_f, grdF_s, grdF_pt, grdF_pf, stepF, ev_v, ev_k, ev_o, oev_al, oev_int, oev_sl, oev_str, oev_agg, oev_pt, oev_bool, lk_cons, lk_nil, st1_cons, st1_nil, keepE_cons, keepE_nil, D.clean, reduceIte, Nat.reduceEqDiff,
    putF_int, putF_bool, putF_str, putF_sl, putF_agg, putF_tup, putF_pt, putF_clo, putF_err, mvF, moF, tkF, shF, ariF, ciF, catF, scF, ebF, eqF, eqOk, eqPr, enF, notF, ngF, cvF, csF, csbF, cbsF_s, cbsF_o, lenF, lenSF, ixF, iaF, PX.slot, iaAF, atV, atO, faF, ldF, ldC_ints, ldC_ints', ldC_aggc, ldC_cons, D.mem, stF, stG_ints, stG_box, bxF, mkSF, appF_oo, appF_os, ints_app, ints_snoc, ints_length, ints_nil, cut_ints, slcF_o, slcF_s, slc2_eq, slSF_eq, slS2_eq, boundF, Option.map_some, Option.map_none, mkfF_eq, capt_eq, captD_box, captD_pt, extF_eq, extO_eq, List.getElem?_cons_zero, List.getElem?_cons_succ, pickF_t, pickF_f, pickF_p, fldF, mmF2,
    lend_eq, List.map_cons, List.map_nil, D.plain, D.isPure, optAll, dulls_nil, dulls_v, dulls_k, dulls_o, D.dull, callVF, bldF_eq, bldSF_eq, fillD_nil, fillD_cons, splice, D.cells, D.one, List.length_cons, List.length_nil, List.all_cons, List.all_nil, Bool.and_self, Bool.and_true, Bool.true_and, List.take_succ_cons, List.take_zero, List.drop_succ_cons, List.drop_zero, List.nil_append, List.cons_append, List.append_nil, List.drop_nil, List.take_nil, List.replicate_succ, List.replicate_zero, List.flatten_cons, List.flatten_nil, Nat.reduceAdd, Nat.reduceMul, Nat.reduceSub, Nat.reduceLeDiff, Nat.zero_add, Nat.add_zero, Nat.mul_one, Nat.one_mul, Nat.zero_mul, Nat.zero_le, Int.toNat_natCast, Int.toNat_zero, Int.reduceToNat, Nat.sub_zero, Nat.le_refl,
    sets, List.cons.injEq, inR_i64, inR_u64, inR_u32, inR_i32, inR_u8, dB_True, dB_False, dB_neg, dB_beq_true, dB_beq_false, maxLen_eq, true_and, and_true, Bool.not_true, Bool.not_false, Bool.false_eq_true, Bool.not_eq_true, retQ_nrm, retQ_ret, resD_t, resT, Option.some.injEq, D.sl.injEq, D.int.injEq, D.bool.injEq, and_self, ne_eq, not_false_eq_true, not_true_eq_false, forall_const, D.flat, D.flat0, D.simple, Int.reduceLT, Int.reduceLE, Int.reduceEq, Int.reduceNeg, Int.reduceSub, Int.reduceAdd, Int.reduceMul, Int.ofNat_eq_natCast, imp_self, implies_true, false_implies]
    refine ⟨fun hb => ?_, fun hb => ?_⟩
    all_goals
      simp only [List.length_append, List.length_cons, List.length_nil]
      refine ⟨by omega, by omega, by omega, by omega, by omega, by omega, by omega, ?_⟩
      rw [hr, strs_snoc]
      simp [Lay.line, hb]
end Go.Proofs
