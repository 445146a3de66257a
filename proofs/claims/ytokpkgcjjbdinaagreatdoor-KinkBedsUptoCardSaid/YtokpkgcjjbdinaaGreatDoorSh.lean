/-
  KINK: kink.Of, the profile of a bed. Own work.
-/
import Derived.Test.YtokpkgcjjbdinaaGreatDoorPl
import Derived.Test.YtokpkgcjjbdinaaGreatDoorSg
set_option linter.unusedVariables false
set_option linter.unusedSimpArgs false
namespace Go.Kk
open Go.Ge Go.Ar
/-- a square of a rational number -/
def okRt (q : Rat) : Prop := isq q.num.natAbs ∧ isq q.den
instance (q : Rat) : Decidable (okRt q) := inferInstanceAs (Decidable (_ ∧ _))
def rtQ (q : Rat) : Rat := mkRat (nrt q.num.natAbs) (nrt q.den)
theorem rtQ_sq {q : Rat} (h0 : 0 ≤ q) (h : okRt q) : rtQ q * rtQ q = q ∧ 0 ≤ rtQ q := by
  obtain ⟨h1, h2⟩ := h
  have hn : 0 ≤ q.num := Rat.num_nonneg.2 h0
  constructor
  · unfold rtQ
    rw [Rat.mkRat_mul_mkRat, ← Int.natCast_mul, h1, h2]
    rw [show ((q.num.natAbs : Nat) : Int) = q.num by omega, Rat.mkRat_self]
  · unfold rtQ
    rw [Rat.mkRat_eq_div, Rat.div_def]
    have a : (0 : Rat) ≤ (((nrt q.num.natAbs : Nat) : Int) : Rat) := by exact_mod_cast Int.natCast_nonneg _
    have b : (0 : Rat) ≤ ((nrt q.den : Nat) : Rat) := by exact_mod_cast Nat.zero_le _
    have hz : ((nrt q.den : Nat) : Rat) ≠ 0 := fun e => by
      have e2 : nrt q.den = 0 := by exact_mod_cast e
      unfold isq at h2
      rw [e2] at h2
      exact q.den_nz (by omega)
    have hi := Rat.mul_inv_cancel _ hz
    generalize ((nrt q.den : Nat) : Rat) = y at *
    refine Rat.mul_nonneg a ?_
    rcases Rat.le_total (a := 0) (b := y⁻¹) with h | h
    · exact h
    · have := Rat.mul_nonneg b (show 0 ≤ -y⁻¹ by grind)
      grind
/-- the steps of a bed: the way, its square, its length, the half-tangent of its dip -/
def dS (b : Nat → Pt) (k : Nat) : Pt := mn (b (k + 1)) (b k)
def qS (b : Nat → Pt) (k : Nat) : Rat := dt (dS b k) (dS b k)
def rS (b : Nat → Pt) (k : Nat) : Rat := rtQ (qS b k)
def tS (b : Nat → Pt) (k : Nat) : Rat := (dS b k).2 / (rS b k + (dS b k).1)
/-- the error of a step, and the first of some -/
def stE (b : Nat → Pt) (k : Nat) : Int := if 0 < (dS b k).1 then (if okRt (qS b k) then 0 else 29) else 7
def fe (b : Nat → Pt) : Nat → Int
  | 0 => 0
  | k + 1 => if fe b k = 0 then stE b k else fe b k
theorem fe_stop {b : Nat → Pt} {k : Nat} (h : fe b k ≠ 0) : ∀ m, fe b (k + m) = fe b k
  | 0 => rfl
  | m + 1 => by
    have ih := fe_stop h m
    show (if fe b (k + m) = 0 then _ else _) = _
    rw [ih, if_neg h]
    exact ih
theorem qS_nn (b : Nat → Pt) (k : Nat) : 0 ≤ qS b k := by
  unfold qS dt
  generalize (dS b k).1 = x
  generalize (dS b k).2 = y
  have hs : ∀ x : Rat, 0 ≤ x * x := fun x => by
    rcases Rat.le_total (a := 0) (b := x) with h | h
    · exact Rat.mul_nonneg h h
    · have := Rat.mul_nonneg (a := -x) (b := -x) (by grind) (by grind)
      grind
  have := hs x; have := hs y
  grind
end Go.Kk
namespace Go.Proofs
open Go Go.Pi Go.RowKit Go.Ar Go.Ge Go.Kk

set_option maxRecDepth 100000 in
set_option maxHeartbeats 16000000 in
theorem Tryz.kOf (b : Nat → Pt) (n : Nat) (hn : 1 ≤ n) (hn4 : n ≤ 4) (hb : ∀ k, k ≤ n → Sz 50 (b k)) (hr : ∀ k, k < n → stE b k = 0 → rd (rS b k) ≤ 190 ∧ rd (tS b k) ≤ 190) :
    Con Tryz.prog Tryz.L 43 [.sl (n + 1) (pts (lst (n + 1) b))] (if fe b n = 0 then .tup [.agg (pfD ⟨n, b 0, tS b, rS b⟩), .int .i64 0] else .tup [.agg [.str [], .str [], .sl 0 [], .sl 0 []], .int .i64 (fe b n)]) := by
  have hl := pts_len (lst (n + 1) b)
  rw [lst_len] at hl
  refine rule43f Tryz.hL (by split <;> rfl) rfl rfl ?_
  (simp only [pc43f, rs43f]; refine ev ?_; try with_reducible exact trivial)
  refine ⟨fun h => absurd h (by omega), fun _ => ⟨fun h => absurd h (by omega), fun _ => ?_⟩⟩
  refine loopF_of (fun E => ∃ (i : Nat) (c x y : D), i ≤ n + 1 ∧ fe b (i - 1) = 0 ∧ ((i = 0 ∧ c = .box true [.str [], .str [], .sl 0 [.un], .sl 0 [.un]] ∧ x = .un ∧ y = .un) ∨
      (i = 1 ∧ c = .box true [.str (rt (b 0).1), .str (rt (b 0).2), .sl 0 [.un], .sl 0 [.un]] ∧ x = .un ∧ y = .un) ∨
      (2 ≤ i ∧ c = .mbx [.str (rt (b 0).1), .str (rt (b 0).2), .al 4000004, .al 5000004] ∧ x = .own true 22 (i - 1) (nms (i - 1) (tS b)) ∧ y = .own true 22 (i - 1) (nms (i - 1) (rS b)))) ∧
      E = [(0, .sl (n + 1) (pts (lst (n + 1) b))), (2, .box true [.str [], .str [], .sl 0 [], .sl 0 []]), (4, c), (21, .sl (n + 1) (pts (lst (n + 1) b))), (22, .int .i64 ((n + 1 : Nat) : Int)), (23, .int .i64 i), (4000004, x), (5000004, y)])
    (fun E => match lk E 23 with | .int _ i => n + 1 - i.toNat | _ => 0) ⟨0, _, _, _, Nat.zero_le _, rfl, .inl ⟨rfl, rfl, rfl, rfl⟩, rfl⟩ ?_
  rintro _ ⟨i, c, x, y, hi, hf, hc, rfl⟩
  by_cases hlt : i < n + 1
  · have hbi := hb i (by omega)
    have cp := Tryz.ppoint (b i) (hbi.mono (by omega))
    simp only [ptD] at cp
    have hst : 1 ≤ i → Con Tryz.prog Tryz.L 75 [ptD (b i), ptD (b (i - 1))] (ptD (dS b (i - 1))) ∧ Con Tryz.prog Tryz.L 35 [.str (rt (dS b (i - 1)).1)] (.int .i64 (dS b (i - 1)).1.num.sign) ∧ Con Tryz.prog Tryz.L 74 [ptD (dS b (i - 1)), ptD (dS b (i - 1))] (.str (rt (qS b (i - 1)))) ∧ Sz 110 (dS b (i - 1)) ∧ rd (qS b (i - 1)) ≤ 500 := fun h1 => by
      have e : dS b (i - 1) = Kk.mn (b i) (b (i - 1)) := by unfold dS; rw [show i - 1 + 1 = i by omega]
      have hbj := hb (i - 1) (by omega)
      have hds : Sz 110 (dS b (i - 1)) := by rw [e]; exact (hbi.mn hbj).mono (by omega)
      refine ⟨?_, Tryz.rsign _ (by have := hds.1; omega), Tryz.kdot _ _ (hds.mono (by omega)) (hds.mono (by omega)), hds, ?_⟩
      · rw [e]; exact Tryz.kminus _ _ (hbi.mono (by omega)) (hbj.mono (by omega))
      · have := rd_dt hds hds; exact Nat.le_trans this (by omega)
    have hbad : 1 ≤ i → stE b (i - 1) ≠ 0 → fe b n = stE b (i - 1) := fun h1 h2 => by
      obtain ⟨j, rfl⟩ : ∃ j, i = j + 1 := ⟨i - 1, by omega⟩
      have e1 : fe b (j + 1) = stE b j := by
        show (if fe b j = 0 then stE b j else fe b j) = _
        rw [if_pos (by simpa using hf)]
      have := fe_stop (b := b) (k := j + 1) (by rw [e1]; exact h2) (n - (j + 1))
      rw [show j + 1 + (n - (j + 1)) = n by omega] at this
      rw [this]; exact e1
    have e9 : 1 ≤ i → ((i : Int) - 1).toNat = i - 1 := fun h => by omega
    rcases hc with ⟨hi0, rfl, rfl, rfl⟩ | ⟨hi1, rfl, rfl, rfl⟩ | ⟨hi2, rfl, rfl, rfl⟩
    · simp only [evX, evY, evZ, forall_const, implies_true, initE, stepF, D.clean, mvF, moF, tkF, shF, ariF, ciF, catF, scF, ebF, eqF, eqOk, eqPr, enF, notF, ngF, cvF, csF, csbF, lenF, lenSF, ixF, iaF, PX.slot, iaAF, faF, ldF, D.mem, stF, bxF, mkSF, boundF, fldF, ixAF, mmF2, D.plain, D.isPure, optAll, D.dull, callVF, splice, D.cells, D.one, sets, resT, D.flat, D.flat0, D.simple, Nat.reduceBNe, Nat.reduceLT, reduceIte, Nat.reduceEqDiff, Nat.reduceAdd, Nat.reduceMul, Nat.reduceSub, Nat.reduceLeDiff, Int.reduceToNat, Int.reduceLT, Int.reduceLE, Int.reduceEq, Int.reduceNeg, Int.reduceSub, Int.reduceAdd, Int.reduceMul, stG_own, GF_eq, faMF_b, faMF_m, lgMF_b, lgMF_m, lgMC_al, lgMC_sl, lgMC_str, sgMF_b, sgMF_m, ldMF_b, ldMF_m, appF_no, fset0, fsetS, fldOk_al, fldOk_str, fldOk_sl, isOwn_o, unM_al, unM_str, unM_sl, ldC_ptsT, pD]
      refine ⟨fun _ => ?_, fun h => absurd (by omega) h⟩
      refine ⟨⟨by omega, by omega, by omega⟩, hlt, ?_⟩
      refine callF_of cp ?_
      simp only [evX, evY, evZ, forall_const, implies_true, initE, stepF, D.clean, mvF, moF, tkF, shF, ariF, ciF, catF, scF, ebF, eqF, eqOk, eqPr, enF, notF, ngF, cvF, csF, csbF, lenF, lenSF, ixF, iaF, PX.slot, iaAF, faF, ldF, D.mem, stF, bxF, mkSF, boundF, fldF, ixAF, mmF2, D.plain, D.isPure, optAll, D.dull, callVF, splice, D.cells, D.one, sets, resT, D.flat, D.flat0, D.simple, Nat.reduceBNe, Nat.reduceLT, reduceIte, Nat.reduceEqDiff, Nat.reduceAdd, Nat.reduceMul, Nat.reduceSub, Nat.reduceLeDiff, Int.reduceToNat, Int.reduceLT, Int.reduceLE, Int.reduceEq, Int.reduceNeg, Int.reduceSub, Int.reduceAdd, Int.reduceMul, stG_own, GF_eq, faMF_b, faMF_m, lgMF_b, lgMF_m, lgMC_al, lgMC_sl, lgMC_str, sgMF_b, sgMF_m, ldMF_b, ldMF_m, appF_no, fset0, fsetS, fldOk_al, fldOk_str, fldOk_sl, isOwn_o, unM_al, unM_str, unM_sl, ldC_ptsT, pD]
      exact ⟨fun _ => ⟨by omega, ⟨1, _, _, _, by omega, rfl, .inr (.inl ⟨rfl, rfl, rfl, rfl⟩), by subst hi0; exact ⟨rfl, rfl, rfl, rfl⟩⟩, by omega⟩, fun h => absurd (by omega) h⟩
    · have h1 : 1 ≤ i := by omega
      obtain ⟨cm, cs, cd, hds, hq⟩ := hst h1
      replace hbad := hbad h1
      replace e9 := e9 h1
      simp only [ptD] at cm cd
      simp only [evX, evY, evZ, forall_const, implies_true, initE, stepF, D.clean, mvF, moF, tkF, shF, ariF, ciF, catF, scF, ebF, eqF, eqOk, eqPr, enF, notF, ngF, cvF, csF, csbF, lenF, lenSF, ixF, iaF, PX.slot, iaAF, faF, ldF, D.mem, stF, bxF, mkSF, boundF, fldF, ixAF, mmF2, D.plain, D.isPure, optAll, D.dull, callVF, splice, D.cells, D.one, sets, resT, D.flat, D.flat0, D.simple, Nat.reduceBNe, Nat.reduceLT, reduceIte, Nat.reduceEqDiff, Nat.reduceAdd, Nat.reduceMul, Nat.reduceSub, Nat.reduceLeDiff, Int.reduceToNat, Int.reduceLT, Int.reduceLE, Int.reduceEq, Int.reduceNeg, Int.reduceSub, Int.reduceAdd, Int.reduceMul, stG_own, GF_eq, faMF_b, faMF_m, lgMF_b, lgMF_m, lgMC_al, lgMC_sl, lgMC_str, sgMF_b, sgMF_m, ldMF_b, ldMF_m, appF_no, fset0, fsetS, fldOk_al, fldOk_str, fldOk_sl, isOwn_o, unM_al, unM_str, unM_sl, ldC_ptsT, pD]
      refine ⟨fun _ => ?_, fun h => absurd (by omega) h⟩
      refine ⟨⟨by omega, by omega, by omega⟩, hlt, ?_⟩
      refine callF_of cp ?_
      simp only [evX, evY, evZ, forall_const, implies_true, initE, stepF, D.clean, mvF, moF, tkF, shF, ariF, ciF, catF, scF, ebF, eqF, eqOk, eqPr, enF, notF, ngF, cvF, csF, csbF, lenF, lenSF, ixF, iaF, PX.slot, iaAF, faF, ldF, D.mem, stF, bxF, mkSF, boundF, fldF, ixAF, mmF2, D.plain, D.isPure, optAll, D.dull, callVF, splice, D.cells, D.one, sets, resT, D.flat, D.flat0, D.simple, Nat.reduceBNe, Nat.reduceLT, reduceIte, Nat.reduceEqDiff, Nat.reduceAdd, Nat.reduceMul, Nat.reduceSub, Nat.reduceLeDiff, Int.reduceToNat, Int.reduceLT, Int.reduceLE, Int.reduceEq, Int.reduceNeg, Int.reduceSub, Int.reduceAdd, Int.reduceMul, stG_own, GF_eq, faMF_b, faMF_m, lgMF_b, lgMF_m, lgMC_al, lgMC_sl, lgMC_str, sgMF_b, sgMF_m, ldMF_b, ldMF_m, appF_no, fset0, fsetS, fldOk_al, fldOk_str, fldOk_sl, isOwn_o, unM_al, unM_str, unM_sl, ldC_ptsT, pD, e9]
      refine ⟨fun h => absurd h (by omega), fun _ => ?_⟩
      refine ⟨⟨by omega, by omega⟩, ⟨by omega, by omega, by omega⟩, by omega, ?_⟩
      refine callF_of cm ?_
      simp only [evX, evY, evZ, forall_const, implies_true, initE, stepF, D.clean, mvF, moF, tkF, shF, ariF, ciF, catF, scF, ebF, eqF, eqOk, eqPr, enF, notF, ngF, cvF, csF, csbF, lenF, lenSF, ixF, iaF, PX.slot, iaAF, faF, ldF, D.mem, stF, bxF, mkSF, boundF, fldF, ixAF, mmF2, D.plain, D.isPure, optAll, D.dull, callVF, splice, D.cells, D.one, sets, resT, D.flat, D.flat0, D.simple, Nat.reduceBNe, Nat.reduceLT, reduceIte, Nat.reduceEqDiff, Nat.reduceAdd, Nat.reduceMul, Nat.reduceSub, Nat.reduceLeDiff, Int.reduceToNat, Int.reduceLT, Int.reduceLE, Int.reduceEq, Int.reduceNeg, Int.reduceSub, Int.reduceAdd, Int.reduceMul, stG_own, GF_eq, faMF_b, faMF_m, lgMF_b, lgMF_m, lgMC_al, lgMC_sl, lgMC_str, sgMF_b, sgMF_m, ldMF_b, ldMF_m, appF_no, fset0, fsetS, fldOk_al, fldOk_str, fldOk_sl, isOwn_o, unM_al, unM_str, unM_sl, pD]
      refine callF_of cs ?_
      simp only [evX, evY, evZ, forall_const, implies_true, initE, stepF, D.clean, mvF, moF, tkF, shF, ariF, ciF, catF, scF, ebF, eqF, eqOk, eqPr, enF, notF, ngF, cvF, csF, csbF, lenF, lenSF, ixF, iaF, PX.slot, iaAF, faF, ldF, D.mem, stF, bxF, mkSF, boundF, fldF, ixAF, mmF2, D.plain, D.isPure, optAll, D.dull, callVF, splice, D.cells, D.one, sets, resT, D.flat, D.flat0, D.simple, Nat.reduceBNe, Nat.reduceLT, reduceIte, Nat.reduceEqDiff, Nat.reduceAdd, Nat.reduceMul, Nat.reduceSub, Nat.reduceLeDiff, Int.reduceToNat, Int.reduceLT, Int.reduceLE, Int.reduceEq, Int.reduceNeg, Int.reduceSub, Int.reduceAdd, Int.reduceMul, stG_own, GF_eq, faMF_b, faMF_m, lgMF_b, lgMF_m, lgMC_al, lgMC_sl, lgMC_str, sgMF_b, sgMF_m, ldMF_b, ldMF_m, appF_no, fset0, fsetS, fldOk_al, fldOk_str, fldOk_sl, isOwn_o, unM_al, unM_str, unM_sl, pD]
      refine ⟨fun h => ?_, fun h => ?_⟩
      · have hse : stE b (i - 1) = 7 := by unfold stE; rw [if_neg (fun z => by have := (sgn_gt _).2 z; omega)]
        rw [hbad (by rw [hse]; decide), hse, if_neg (by decide)]
        rfl
      · have hpos : 0 < (dS b (i - 1)).1 := (sgn_gt _).1 (by omega)
        refine callF_of cd ?_
        simp only [evX, evY, evZ, forall_const, implies_true, initE, stepF, D.clean, mvF, moF, tkF, shF, ariF, ciF, catF, scF, ebF, eqF, eqOk, eqPr, enF, notF, ngF, cvF, csF, csbF, lenF, lenSF, ixF, iaF, PX.slot, iaAF, faF, ldF, D.mem, stF, bxF, mkSF, boundF, fldF, ixAF, mmF2, D.plain, D.isPure, optAll, D.dull, callVF, splice, D.cells, D.one, sets, resT, D.flat, D.flat0, D.simple, Nat.reduceBNe, Nat.reduceLT, reduceIte, Nat.reduceEqDiff, Nat.reduceAdd, Nat.reduceMul, Nat.reduceSub, Nat.reduceLeDiff, Int.reduceToNat, Int.reduceLT, Int.reduceLE, Int.reduceEq, Int.reduceNeg, Int.reduceSub, Int.reduceAdd, Int.reduceMul, stG_own, GF_eq, faMF_b, faMF_m, lgMF_b, lgMF_m, lgMC_al, lgMC_sl, lgMC_str, sgMF_b, sgMF_m, ldMF_b, ldMF_m, appF_no, fset0, fsetS, fldOk_al, fldOk_str, fldOk_sl, isOwn_o, unM_al, unM_str, unM_sl, pD]
        by_cases hok : okRt (qS b (i - 1))
        · have hse : stE b (i - 1) = 0 := by unfold stE; rw [if_pos hpos, if_pos hok]
          obtain ⟨h1, h2⟩ := hr (i - 1) (by omega) hse
          obtain ⟨q1, q2⟩ := rtQ_sq (qS_nn b (i - 1)) hok
          have cr := Tryz.rrootY (rS b (i - 1)) q2 (by omega)
          rw [show rS b (i - 1) * rS b (i - 1) = qS b (i - 1) from q1] at cr
          have ca := Tryz.radd (rS b (i - 1)) (dS b (i - 1)).1 (by omega) (by have := hds.1; omega)
          have a1 := rd_add (rS b (i - 1)) (dS b (i - 1)).1
          have hne : rS b (i - 1) + (dS b (i - 1)).1 ≠ 0 := by
            have z : 0 ≤ rS b (i - 1) := q2
            generalize rS b (i - 1) = u at *
            generalize (dS b (i - 1)).1 = v at *
            grind
          have cq := Tryz.kquo (dS b (i - 1)).2 (rS b (i - 1) + (dS b (i - 1)).1) (by have := hds.2; omega) (by have := hds.1; omega) hne
          have hfi : fe b i = 0 := by
            obtain ⟨j, rfl⟩ : ∃ j, i = j + 1 := ⟨i - 1, by omega⟩
            show (if fe b j = 0 then stE b j else fe b j) = 0
            rw [if_pos (by simpa using hf)]; exact hse
          refine callF_of cr ?_
          simp only [evX, evY, evZ, forall_const, implies_true, initE, stepF, D.clean, mvF, moF, tkF, shF, ariF, ciF, catF, scF, ebF, eqF, eqOk, eqPr, enF, notF, ngF, cvF, csF, csbF, lenF, lenSF, ixF, iaF, PX.slot, iaAF, faF, ldF, D.mem, stF, bxF, mkSF, boundF, fldF, ixAF, mmF2, D.plain, D.isPure, optAll, D.dull, callVF, splice, D.cells, D.one, sets, resT, D.flat, D.flat0, D.simple, Nat.reduceBNe, Nat.reduceLT, reduceIte, Nat.reduceEqDiff, Nat.reduceAdd, Nat.reduceMul, Nat.reduceSub, Nat.reduceLeDiff, Int.reduceToNat, Int.reduceLT, Int.reduceLE, Int.reduceEq, Int.reduceNeg, Int.reduceSub, Int.reduceAdd, Int.reduceMul, stG_own, GF_eq, faMF_b, faMF_m, lgMF_b, lgMF_m, lgMC_al, lgMC_sl, lgMC_str, sgMF_b, sgMF_m, ldMF_b, ldMF_m, appF_no, fset0, fsetS, fldOk_al, fldOk_str, fldOk_sl, isOwn_o, unM_al, unM_str, unM_sl, pD]
          refine callF_of ca ?_
          simp only [evX, evY, evZ, forall_const, implies_true, initE, stepF, D.clean, mvF, moF, tkF, shF, ariF, ciF, catF, scF, ebF, eqF, eqOk, eqPr, enF, notF, ngF, cvF, csF, csbF, lenF, lenSF, ixF, iaF, PX.slot, iaAF, faF, ldF, D.mem, stF, bxF, mkSF, boundF, fldF, ixAF, mmF2, D.plain, D.isPure, optAll, D.dull, callVF, splice, D.cells, D.one, sets, resT, D.flat, D.flat0, D.simple, Nat.reduceBNe, Nat.reduceLT, reduceIte, Nat.reduceEqDiff, Nat.reduceAdd, Nat.reduceMul, Nat.reduceSub, Nat.reduceLeDiff, Int.reduceToNat, Int.reduceLT, Int.reduceLE, Int.reduceEq, Int.reduceNeg, Int.reduceSub, Int.reduceAdd, Int.reduceMul, stG_own, GF_eq, faMF_b, faMF_m, lgMF_b, lgMF_m, lgMC_al, lgMC_sl, lgMC_str, sgMF_b, sgMF_m, ldMF_b, ldMF_m, appF_no, fset0, fsetS, fldOk_al, fldOk_str, fldOk_sl, isOwn_o, unM_al, unM_str, unM_sl, pD]
          refine callF_of cq ?_
          simp only [evX, evY, evZ, forall_const, implies_true, initE, stepF, D.clean, mvF, moF, tkF, shF, ariF, ciF, catF, scF, ebF, eqF, eqOk, eqPr, enF, notF, ngF, cvF, csF, csbF, lenF, lenSF, ixF, iaF, PX.slot, iaAF, faF, ldF, D.mem, stF, bxF, mkSF, boundF, fldF, ixAF, mmF2, D.plain, D.isPure, optAll, D.dull, callVF, splice, D.cells, D.one, sets, resT, D.flat, D.flat0, D.simple, Nat.reduceBNe, Nat.reduceLT, reduceIte, Nat.reduceEqDiff, Nat.reduceAdd, Nat.reduceMul, Nat.reduceSub, Nat.reduceLeDiff, Int.reduceToNat, Int.reduceLT, Int.reduceLE, Int.reduceEq, Int.reduceNeg, Int.reduceSub, Int.reduceAdd, Int.reduceMul, stG_own, GF_eq, faMF_b, faMF_m, lgMF_b, lgMF_m, lgMC_al, lgMC_sl, lgMC_str, sgMF_b, sgMF_m, ldMF_b, ldMF_m, appF_no, fset0, fsetS, fldOk_al, fldOk_str, fldOk_sl, isOwn_o, unM_al, unM_str, unM_sl, pD]
          exact ⟨by omega, ⟨i + 1, _, _, _, by omega, by rw [Nat.add_sub_cancel]; exact hfi, .inr (.inr ⟨by omega, rfl, rfl, rfl⟩), by subst hi1; exact ⟨rfl, rfl, rfl, rfl⟩⟩, by omega⟩
        · have hse : stE b (i - 1) = 29 := by unfold stE; rw [if_pos hpos, if_neg hok]
          have cr := Tryz.rrootN (qS b (i - 1)) (qS_nn b (i - 1)) (by omega) hok
          refine callF_of cr ?_
          simp only [evX, evY, evZ, forall_const, implies_true, initE, stepF, D.clean, mvF, moF, tkF, shF, ariF, ciF, catF, scF, ebF, eqF, eqOk, eqPr, enF, notF, ngF, cvF, csF, csbF, lenF, lenSF, ixF, iaF, PX.slot, iaAF, faF, ldF, D.mem, stF, bxF, mkSF, boundF, fldF, ixAF, mmF2, D.plain, D.isPure, optAll, D.dull, callVF, splice, D.cells, D.one, sets, resT, D.flat, D.flat0, D.simple, Nat.reduceBNe, Nat.reduceLT, reduceIte, Nat.reduceEqDiff, Nat.reduceAdd, Nat.reduceMul, Nat.reduceSub, Nat.reduceLeDiff, Int.reduceToNat, Int.reduceLT, Int.reduceLE, Int.reduceEq, Int.reduceNeg, Int.reduceSub, Int.reduceAdd, Int.reduceMul, stG_own, GF_eq, faMF_b, faMF_m, lgMF_b, lgMF_m, lgMC_al, lgMC_sl, lgMC_str, sgMF_b, sgMF_m, ldMF_b, ldMF_m, appF_no, fset0, fsetS, fldOk_al, fldOk_str, fldOk_sl, isOwn_o, unM_al, unM_str, unM_sl, pD]
          rw [hbad (by rw [hse]; decide), hse, if_neg (by decide)]
          rfl
    · have h1 : 1 ≤ i := by omega
      obtain ⟨cm, cs, cd, hds, hq⟩ := hst h1
      replace hbad := hbad h1
      replace e9 := e9 h1
      simp only [ptD] at cm cd
      simp only [evX, evY, evZ, forall_const, implies_true, initE, stepF, D.clean, mvF, moF, tkF, shF, ariF, ciF, catF, scF, ebF, eqF, eqOk, eqPr, enF, notF, ngF, cvF, csF, csbF, lenF, lenSF, ixF, iaF, PX.slot, iaAF, faF, ldF, D.mem, stF, bxF, mkSF, boundF, fldF, ixAF, mmF2, D.plain, D.isPure, optAll, D.dull, callVF, splice, D.cells, D.one, sets, resT, D.flat, D.flat0, D.simple, Nat.reduceBNe, Nat.reduceLT, reduceIte, Nat.reduceEqDiff, Nat.reduceAdd, Nat.reduceMul, Nat.reduceSub, Nat.reduceLeDiff, Int.reduceToNat, Int.reduceLT, Int.reduceLE, Int.reduceEq, Int.reduceNeg, Int.reduceSub, Int.reduceAdd, Int.reduceMul, stG_own, GF_eq, faMF_b, faMF_m, lgMF_b, lgMF_m, lgMC_al, lgMC_sl, lgMC_str, sgMF_b, sgMF_m, ldMF_b, ldMF_m, appF_no, fset0, fsetS, fldOk_al, fldOk_str, fldOk_sl, isOwn_o, unM_al, unM_str, unM_sl, ldC_ptsT, pD]
      refine ⟨fun _ => ?_, fun h => absurd (by omega) h⟩
      refine ⟨⟨by omega, by omega, by omega⟩, hlt, ?_⟩
      refine callF_of cp ?_
      simp only [evX, evY, evZ, forall_const, implies_true, initE, stepF, D.clean, mvF, moF, tkF, shF, ariF, ciF, catF, scF, ebF, eqF, eqOk, eqPr, enF, notF, ngF, cvF, csF, csbF, lenF, lenSF, ixF, iaF, PX.slot, iaAF, faF, ldF, D.mem, stF, bxF, mkSF, boundF, fldF, ixAF, mmF2, D.plain, D.isPure, optAll, D.dull, callVF, splice, D.cells, D.one, sets, resT, D.flat, D.flat0, D.simple, Nat.reduceBNe, Nat.reduceLT, reduceIte, Nat.reduceEqDiff, Nat.reduceAdd, Nat.reduceMul, Nat.reduceSub, Nat.reduceLeDiff, Int.reduceToNat, Int.reduceLT, Int.reduceLE, Int.reduceEq, Int.reduceNeg, Int.reduceSub, Int.reduceAdd, Int.reduceMul, stG_own, GF_eq, faMF_b, faMF_m, lgMF_b, lgMF_m, lgMC_al, lgMC_sl, lgMC_str, sgMF_b, sgMF_m, ldMF_b, ldMF_m, appF_no, fset0, fsetS, fldOk_al, fldOk_str, fldOk_sl, isOwn_o, unM_al, unM_str, unM_sl, ldC_ptsT, pD, e9]
      refine ⟨fun h => absurd h (by omega), fun _ => ?_⟩
      refine ⟨⟨by omega, by omega⟩, ⟨by omega, by omega, by omega⟩, by omega, ?_⟩
      refine callF_of cm ?_
      simp only [evX, evY, evZ, forall_const, implies_true, initE, stepF, D.clean, mvF, moF, tkF, shF, ariF, ciF, catF, scF, ebF, eqF, eqOk, eqPr, enF, notF, ngF, cvF, csF, csbF, lenF, lenSF, ixF, iaF, PX.slot, iaAF, faF, ldF, D.mem, stF, bxF, mkSF, boundF, fldF, ixAF, mmF2, D.plain, D.isPure, optAll, D.dull, callVF, splice, D.cells, D.one, sets, resT, D.flat, D.flat0, D.simple, Nat.reduceBNe, Nat.reduceLT, reduceIte, Nat.reduceEqDiff, Nat.reduceAdd, Nat.reduceMul, Nat.reduceSub, Nat.reduceLeDiff, Int.reduceToNat, Int.reduceLT, Int.reduceLE, Int.reduceEq, Int.reduceNeg, Int.reduceSub, Int.reduceAdd, Int.reduceMul, stG_own, GF_eq, faMF_b, faMF_m, lgMF_b, lgMF_m, lgMC_al, lgMC_sl, lgMC_str, sgMF_b, sgMF_m, ldMF_b, ldMF_m, appF_no, fset0, fsetS, fldOk_al, fldOk_str, fldOk_sl, isOwn_o, unM_al, unM_str, unM_sl, pD]
      refine callF_of cs ?_
      simp only [evX, evY, evZ, forall_const, implies_true, initE, stepF, D.clean, mvF, moF, tkF, shF, ariF, ciF, catF, scF, ebF, eqF, eqOk, eqPr, enF, notF, ngF, cvF, csF, csbF, lenF, lenSF, ixF, iaF, PX.slot, iaAF, faF, ldF, D.mem, stF, bxF, mkSF, boundF, fldF, ixAF, mmF2, D.plain, D.isPure, optAll, D.dull, callVF, splice, D.cells, D.one, sets, resT, D.flat, D.flat0, D.simple, Nat.reduceBNe, Nat.reduceLT, reduceIte, Nat.reduceEqDiff, Nat.reduceAdd, Nat.reduceMul, Nat.reduceSub, Nat.reduceLeDiff, Int.reduceToNat, Int.reduceLT, Int.reduceLE, Int.reduceEq, Int.reduceNeg, Int.reduceSub, Int.reduceAdd, Int.reduceMul, stG_own, GF_eq, faMF_b, faMF_m, lgMF_b, lgMF_m, lgMC_al, lgMC_sl, lgMC_str, sgMF_b, sgMF_m, ldMF_b, ldMF_m, appF_no, fset0, fsetS, fldOk_al, fldOk_str, fldOk_sl, isOwn_o, unM_al, unM_str, unM_sl, pD]
      refine ⟨fun h => ?_, fun h => ?_⟩
      · have hse : stE b (i - 1) = 7 := by unfold stE; rw [if_neg (fun z => by have := (sgn_gt _).2 z; omega)]
        rw [hbad (by rw [hse]; decide), hse, if_neg (by decide)]
        rfl
      · have hpos : 0 < (dS b (i - 1)).1 := (sgn_gt _).1 (by omega)
        refine callF_of cd ?_
        simp only [evX, evY, evZ, forall_const, implies_true, initE, stepF, D.clean, mvF, moF, tkF, shF, ariF, ciF, catF, scF, ebF, eqF, eqOk, eqPr, enF, notF, ngF, cvF, csF, csbF, lenF, lenSF, ixF, iaF, PX.slot, iaAF, faF, ldF, D.mem, stF, bxF, mkSF, boundF, fldF, ixAF, mmF2, D.plain, D.isPure, optAll, D.dull, callVF, splice, D.cells, D.one, sets, resT, D.flat, D.flat0, D.simple, Nat.reduceBNe, Nat.reduceLT, reduceIte, Nat.reduceEqDiff, Nat.reduceAdd, Nat.reduceMul, Nat.reduceSub, Nat.reduceLeDiff, Int.reduceToNat, Int.reduceLT, Int.reduceLE, Int.reduceEq, Int.reduceNeg, Int.reduceSub, Int.reduceAdd, Int.reduceMul, stG_own, GF_eq, faMF_b, faMF_m, lgMF_b, lgMF_m, lgMC_al, lgMC_sl, lgMC_str, sgMF_b, sgMF_m, ldMF_b, ldMF_m, appF_no, fset0, fsetS, fldOk_al, fldOk_str, fldOk_sl, isOwn_o, unM_al, unM_str, unM_sl, pD]
        by_cases hok : okRt (qS b (i - 1))
        · have hse : stE b (i - 1) = 0 := by unfold stE; rw [if_pos hpos, if_pos hok]
          obtain ⟨h1, h2⟩ := hr (i - 1) (by omega) hse
          obtain ⟨q1, q2⟩ := rtQ_sq (qS_nn b (i - 1)) hok
          have cr := Tryz.rrootY (rS b (i - 1)) q2 (by omega)
          rw [show rS b (i - 1) * rS b (i - 1) = qS b (i - 1) from q1] at cr
          have ca := Tryz.radd (rS b (i - 1)) (dS b (i - 1)).1 (by omega) (by have := hds.1; omega)
          have a1 := rd_add (rS b (i - 1)) (dS b (i - 1)).1
          have hne : rS b (i - 1) + (dS b (i - 1)).1 ≠ 0 := by
            have z : 0 ≤ rS b (i - 1) := q2
            generalize rS b (i - 1) = u at *
            generalize (dS b (i - 1)).1 = v at *
            grind
          have cq := Tryz.kquo (dS b (i - 1)).2 (rS b (i - 1) + (dS b (i - 1)).1) (by have := hds.2; omega) (by have := hds.1; omega) hne
          have hfi : fe b i = 0 := by
            obtain ⟨j, rfl⟩ : ∃ j, i = j + 1 := ⟨i - 1, by omega⟩
            show (if fe b j = 0 then stE b j else fe b j) = 0
            rw [if_pos (by simpa using hf)]; exact hse
          refine callF_of cr ?_
          simp only [evX, evY, evZ, forall_const, implies_true, initE, stepF, D.clean, mvF, moF, tkF, shF, ariF, ciF, catF, scF, ebF, eqF, eqOk, eqPr, enF, notF, ngF, cvF, csF, csbF, lenF, lenSF, ixF, iaF, PX.slot, iaAF, faF, ldF, D.mem, stF, bxF, mkSF, boundF, fldF, ixAF, mmF2, D.plain, D.isPure, optAll, D.dull, callVF, splice, D.cells, D.one, sets, resT, D.flat, D.flat0, D.simple, Nat.reduceBNe, Nat.reduceLT, reduceIte, Nat.reduceEqDiff, Nat.reduceAdd, Nat.reduceMul, Nat.reduceSub, Nat.reduceLeDiff, Int.reduceToNat, Int.reduceLT, Int.reduceLE, Int.reduceEq, Int.reduceNeg, Int.reduceSub, Int.reduceAdd, Int.reduceMul, stG_own, GF_eq, faMF_b, faMF_m, lgMF_b, lgMF_m, lgMC_al, lgMC_sl, lgMC_str, sgMF_b, sgMF_m, ldMF_b, ldMF_m, appF_no, fset0, fsetS, fldOk_al, fldOk_str, fldOk_sl, isOwn_o, unM_al, unM_str, unM_sl, pD]
          refine callF_of ca ?_
          simp only [evX, evY, evZ, forall_const, implies_true, initE, stepF, D.clean, mvF, moF, tkF, shF, ariF, ciF, catF, scF, ebF, eqF, eqOk, eqPr, enF, notF, ngF, cvF, csF, csbF, lenF, lenSF, ixF, iaF, PX.slot, iaAF, faF, ldF, D.mem, stF, bxF, mkSF, boundF, fldF, ixAF, mmF2, D.plain, D.isPure, optAll, D.dull, callVF, splice, D.cells, D.one, sets, resT, D.flat, D.flat0, D.simple, Nat.reduceBNe, Nat.reduceLT, reduceIte, Nat.reduceEqDiff, Nat.reduceAdd, Nat.reduceMul, Nat.reduceSub, Nat.reduceLeDiff, Int.reduceToNat, Int.reduceLT, Int.reduceLE, Int.reduceEq, Int.reduceNeg, Int.reduceSub, Int.reduceAdd, Int.reduceMul, stG_own, GF_eq, faMF_b, faMF_m, lgMF_b, lgMF_m, lgMC_al, lgMC_sl, lgMC_str, sgMF_b, sgMF_m, ldMF_b, ldMF_m, appF_no, fset0, fsetS, fldOk_al, fldOk_str, fldOk_sl, isOwn_o, unM_al, unM_str, unM_sl, pD]
          refine callF_of cq ?_
          simp only [evX, evY, evZ, forall_const, implies_true, initE, stepF, D.clean, mvF, moF, tkF, shF, ariF, ciF, catF, scF, ebF, eqF, eqOk, eqPr, enF, notF, ngF, cvF, csF, csbF, lenF, lenSF, ixF, iaF, PX.slot, iaAF, faF, ldF, D.mem, stF, bxF, mkSF, boundF, fldF, ixAF, mmF2, D.plain, D.isPure, optAll, D.dull, callVF, splice, D.cells, D.one, sets, resT, D.flat, D.flat0, D.simple, Nat.reduceBNe, Nat.reduceLT, reduceIte, Nat.reduceEqDiff, Nat.reduceAdd, Nat.reduceMul, Nat.reduceSub, Nat.reduceLeDiff, Int.reduceToNat, Int.reduceLT, Int.reduceLE, Int.reduceEq, Int.reduceNeg, Int.reduceSub, Int.reduceAdd, Int.reduceMul, stG_own, GF_eq, faMF_b, faMF_m, lgMF_b, lgMF_m, lgMC_al, lgMC_sl, lgMC_str, sgMF_b, sgMF_m, ldMF_b, ldMF_m, appF_no, fset0, fsetS, fldOk_al, fldOk_str, fldOk_sl, isOwn_o, unM_al, unM_str, unM_sl, pD]
          have en : i + 1 - 1 = (i - 1) + 1 := by omega
          exact ⟨by omega, by omega, by omega, by omega, by omega, ⟨i + 1, _, _, _, by omega, by rw [Nat.add_sub_cancel]; exact hfi, .inr (.inr ⟨by omega, rfl, rfl, rfl⟩), by rw [en, nms_suc, nms_suc]; exact ⟨rfl, rfl, rfl, rfl⟩⟩, by omega⟩
        · have hse : stE b (i - 1) = 29 := by unfold stE; rw [if_pos hpos, if_neg hok]
          have cr := Tryz.rrootN (qS b (i - 1)) (qS_nn b (i - 1)) (by omega) hok
          refine callF_of cr ?_
          simp only [evX, evY, evZ, forall_const, implies_true, initE, stepF, D.clean, mvF, moF, tkF, shF, ariF, ciF, catF, scF, ebF, eqF, eqOk, eqPr, enF, notF, ngF, cvF, csF, csbF, lenF, lenSF, ixF, iaF, PX.slot, iaAF, faF, ldF, D.mem, stF, bxF, mkSF, boundF, fldF, ixAF, mmF2, D.plain, D.isPure, optAll, D.dull, callVF, splice, D.cells, D.one, sets, resT, D.flat, D.flat0, D.simple, Nat.reduceBNe, Nat.reduceLT, reduceIte, Nat.reduceEqDiff, Nat.reduceAdd, Nat.reduceMul, Nat.reduceSub, Nat.reduceLeDiff, Int.reduceToNat, Int.reduceLT, Int.reduceLE, Int.reduceEq, Int.reduceNeg, Int.reduceSub, Int.reduceAdd, Int.reduceMul, stG_own, GF_eq, faMF_b, faMF_m, lgMF_b, lgMF_m, lgMC_al, lgMC_sl, lgMC_str, sgMF_b, sgMF_m, ldMF_b, ldMF_m, appF_no, fset0, fsetS, fldOk_al, fldOk_str, fldOk_sl, isOwn_o, unM_al, unM_str, unM_sl, pD]
          rw [hbad (by rw [hse]; decide), hse, if_neg (by decide)]
          rfl
  · obtain rfl : i = n + 1 := by omega
    rcases hc with ⟨hi0, _⟩ | ⟨hi1, _⟩ | ⟨hi2, rfl, rfl, rfl⟩
    · omega
    · omega
    · simp only [Nat.add_sub_cancel] at hf ⊢
      rw [if_pos hf]
      have hall : ∀ m, m ≤ n → fe b m = 0 := fun m hm => by
        by_cases h : fe b m = 0
        · exact h
        · have := fe_stop h (n - m)
          rw [show m + (n - m) = n by omega, hf] at this
          exact this.symm
      have hst : ∀ k, k < n → stE b k = 0 := fun k hk => by
        have h1 := hall (k + 1) (by omega)
        have h2 : (if fe b k = 0 then stE b k else fe b k) = 0 := h1
        rwa [if_pos (hall k (by omega))] at h2
      simp only [evX, evY, evZ, forall_const, implies_true, initE, stepF, D.clean, mvF, moF, tkF, shF, ariF, ciF, catF, scF, ebF, eqF, eqOk, eqPr, enF, notF, ngF, cvF, csF, csbF, lenF, lenSF, ixF, iaF, PX.slot, iaAF, faF, ldF, D.mem, stF, bxF, mkSF, boundF, fldF, ixAF, mmF2, D.plain, D.isPure, optAll, D.dull, callVF, splice, D.cells, D.one, sets, resT, D.flat, D.flat0, D.simple, Nat.reduceBNe, Nat.reduceLT, reduceIte, Nat.reduceEqDiff, Nat.reduceAdd, Nat.reduceMul, Nat.reduceSub, Nat.reduceLeDiff, Int.reduceToNat, Int.reduceLT, Int.reduceLE, Int.reduceEq, Int.reduceNeg, Int.reduceSub, Int.reduceAdd, Int.reduceMul, stG_own, GF_eq, faMF_b, faMF_m, lgMF_b, lgMF_m, lgMC_al, lgMC_sl, lgMC_str, sgMF_b, sgMF_m, ldMF_b, ldMF_m, appF_no, fset0, fsetS, fldOk_al, fldOk_str, fldOk_sl, isOwn_o, unM_al, unM_str, unM_sl]
      refine ⟨fun h => absurd h (by omega), fun _ => ?_⟩
      refine loopF_of (fun E => ∃ k : Nat, k ≤ n ∧ E = [(2, .box true [.str [], .str [], .sl 0 [], .sl 0 []]), (4, .mbx [.str (rt (b 0).1), .str (rt (b 0).2), .al 4000004, .al 5000004]), (79, .int .i64 n), (80, .int .i64 k), (4000004, .own true 22 n (nms n (tS b))), (5000004, .own true 22 n (nms n (rS b)))])
        (fun E => match lk E 80 with | .int _ i => n - i.toNat | _ => 0) ⟨0, Nat.zero_le _, rfl⟩ ?_
      rintro _ ⟨k, hk, rfl⟩
      simp only [evX, evY, evZ, forall_const, implies_true, initE, stepF, D.clean, mvF, moF, tkF, shF, ariF, ciF, catF, scF, ebF, eqF, eqOk, eqPr, enF, notF, ngF, cvF, csF, csbF, lenF, lenSF, ixF, iaF, PX.slot, iaAF, faF, ldF, D.mem, stF, bxF, mkSF, boundF, fldF, ixAF, mmF2, D.plain, D.isPure, optAll, D.dull, callVF, splice, D.cells, D.one, sets, resT, D.flat, D.flat0, D.simple, Nat.reduceBNe, Nat.reduceLT, reduceIte, Nat.reduceEqDiff, Nat.reduceAdd, Nat.reduceMul, Nat.reduceSub, Nat.reduceLeDiff, Int.reduceToNat, Int.reduceLT, Int.reduceLE, Int.reduceEq, Int.reduceNeg, Int.reduceSub, Int.reduceAdd, Int.reduceMul, stG_own, GF_eq, faMF_b, faMF_m, lgMF_b, lgMF_m, lgMC_al, lgMC_sl, lgMC_str, sgMF_b, sgMF_m, ldMF_b, ldMF_m, appF_no, fset0, fsetS, fldOk_al, fldOk_str, fldOk_sl, isOwn_o, unM_al, unM_str, unM_sl, ldC_nms, ldC_nmsO, nms_len]
      refine ⟨fun h => ?_, fun h => ⟨rfl, rfl⟩⟩
      have hk2 : k < n := by omega
      obtain ⟨r1, r2⟩ := hr k hk2 (hst k hk2)
      refine ⟨⟨by omega, by omega, by omega⟩, hk2, ?_⟩
      refine callF_of (Tryz.rcheckQ (tS b k) (by omega)) ?_
      simp only [evX, evY, evZ, forall_const, implies_true, initE, stepF, D.clean, mvF, moF, tkF, shF, ariF, ciF, catF, scF, ebF, eqF, eqOk, eqPr, enF, notF, ngF, cvF, csF, csbF, lenF, lenSF, ixF, iaF, PX.slot, iaAF, faF, ldF, D.mem, stF, bxF, mkSF, boundF, fldF, ixAF, mmF2, D.plain, D.isPure, optAll, D.dull, callVF, splice, D.cells, D.one, sets, resT, D.flat, D.flat0, D.simple, Nat.reduceBNe, Nat.reduceLT, reduceIte, Nat.reduceEqDiff, Nat.reduceAdd, Nat.reduceMul, Nat.reduceSub, Nat.reduceLeDiff, Int.reduceToNat, Int.reduceLT, Int.reduceLE, Int.reduceEq, Int.reduceNeg, Int.reduceSub, Int.reduceAdd, Int.reduceMul, stG_own, GF_eq, faMF_b, faMF_m, lgMF_b, lgMF_m, lgMC_al, lgMC_sl, lgMC_str, sgMF_b, sgMF_m, ldMF_b, ldMF_m, appF_no, fset0, fsetS, fldOk_al, fldOk_str, fldOk_sl, isOwn_o, unM_al, unM_str, unM_sl, ldC_nms, ldC_nmsO, nms_len]
      refine ⟨⟨by omega, by omega, by omega⟩, hk2, ?_⟩
      refine callF_of (Tryz.rcheckQ (rS b k) (by omega)) ?_
      simp only [evX, evY, evZ, forall_const, implies_true, initE, stepF, D.clean, mvF, moF, tkF, shF, ariF, ciF, catF, scF, ebF, eqF, eqOk, eqPr, enF, notF, ngF, cvF, csF, csbF, lenF, lenSF, ixF, iaF, PX.slot, iaAF, faF, ldF, D.mem, stF, bxF, mkSF, boundF, fldF, ixAF, mmF2, D.plain, D.isPure, optAll, D.dull, callVF, splice, D.cells, D.one, sets, resT, D.flat, D.flat0, D.simple, Nat.reduceBNe, Nat.reduceLT, reduceIte, Nat.reduceEqDiff, Nat.reduceAdd, Nat.reduceMul, Nat.reduceSub, Nat.reduceLeDiff, Int.reduceToNat, Int.reduceLT, Int.reduceLE, Int.reduceEq, Int.reduceNeg, Int.reduceSub, Int.reduceAdd, Int.reduceMul, stG_own, GF_eq, faMF_b, faMF_m, lgMF_b, lgMF_m, lgMC_al, lgMC_sl, lgMC_str, sgMF_b, sgMF_m, ldMF_b, ldMF_m, appF_no, fset0, fsetS, fldOk_al, fldOk_str, fldOk_sl, isOwn_o, unM_al, unM_str, unM_sl, ldC_nms, ldC_nmsO, nms_len]
      exact ⟨by omega, ⟨k + 1, by omega, rfl⟩, by omega⟩
end Go.Proofs

/-
  KINK: profiles and their beds (plain); the sizes of beds of small ints. Own work.
-/
namespace Go.Kk
open Go.Ge Go.Ar

theorem bd_zero (p : Pf) : p.bd 0 = p.at' := by
  funext k
  unfold Pf.bd pl
  simp only [Rat.zero_mul, Rat.add_zero]
theorem divR {a b : Rat} (h : b ≠ 0) : a / b * b = a := by
  have := Rat.mul_inv_cancel _ h
  rw [Rat.div_def]; grind
/-- the dip of a way from its half-tangent -/
theorem dir_half {x y r : Rat} (hr : r * r = x * x + y * y) (hx : 0 < x) (h0 : 0 ≤ r) : r * (dirK (y / (r + x))).1 = x ∧ r * (dirK (y / (r + x))).2 = y ∧ -1 < y / (r + x) ∧ y / (r + x) < 1 := by
  have hs : 0 < r + x := by grind
  have hs0 : r + x ≠ 0 := by grind
  have ht := divR (a := y) hs0
  have h1 := sq1_ne (y / (r + x))
  unfold dirK
  generalize y / (r + x) = t at *
  have e1 := divR (a := 1 - t * t) h1
  have e2 := divR (a := t + t) h1
  simp only
  generalize (1 - t * t) / (1 + t * t) = c at *
  generalize (t + t) / (1 + t * t) = s at *
  have k1 : (r * c - x) * (1 + t * t) * ((r + x) * (r + x)) = 0 := by
    have : (r * c - x) * (1 + t * t) * ((r + x) * (r + x)) = r * (c * (1 + t * t)) * ((r + x) * (r + x)) - x * ((r + x) * (r + x) + (t * (r + x)) * (t * (r + x))) := by grind
    rw [this, e1, ht]
    have : r * (1 - t * t) * ((r + x) * (r + x)) = r * ((r + x) * (r + x) - (t * (r + x)) * (t * (r + x))) := by grind
    rw [this, ht]; grind
  have k2 : (r * s - y) * (1 + t * t) * ((r + x) * (r + x)) = 0 := by
    have : (r * s - y) * (1 + t * t) * ((r + x) * (r + x)) = r * (s * (1 + t * t)) * ((r + x) * (r + x)) - y * ((r + x) * (r + x) + (t * (r + x)) * (t * (r + x))) := by grind
    rw [this, e2, ht]
    have : r * (t + t) * ((r + x) * (r + x)) = 2 * r * (t * (r + x)) * (r + x) := by grind
    rw [this, ht]; grind
  have hz : (r + x) * (r + x) ≠ 0 := fun e => by rcases Rat.mul_eq_zero.1 e with h | h <;> exact hs0 h
  have z : ∀ u : Rat, u * (1 + t * t) * ((r + x) * (r + x)) = 0 → u = 0 := fun u e => by
    rcases Rat.mul_eq_zero.1 e with h | h
    · rcases Rat.mul_eq_zero.1 h with h | h
      · exact h
      · exact absurd h h1
    · exact absurd h hz
  have key : (r + x) * (r + x) - y * y = 2 * x * (r + x) := by grind
  have kp : 0 < 2 * x * (r + x) := Rat.mul_pos (Rat.mul_pos (by decide) hx) hs
  have hss : 0 ≤ (r + x) * (r + x) := Rat.mul_nonneg (by grind) (by grind)
  have hp : 0 < 1 - t * t := by
    rcases Rat.le_total (a := 1 - t * t) (b := 0) with h | h
    · have h5 := Rat.mul_nonneg (show 0 ≤ t * t - 1 by grind) hss
      have h6 : (t * t - 1) * ((r + x) * (r + x)) = -(2 * x * (r + x)) := by
        rw [← key, ← ht]; clear k1 k2 z e1 e2; grind
      grind
    · by_cases h7 : 1 - t * t = 0
      · have h6 : (1 - t * t) * ((r + x) * (r + x)) = 2 * x * (r + x) := by
          rw [← key, ← ht]; clear k1 k2 z e1 e2; grind
        rw [h7] at h6
        grind
      · grind
  refine ⟨?_, ?_, ?_, ?_⟩
  · have := z _ k1; grind
  · have := z _ k2; grind
  · clear k1 k2 z e1 e2 key kp hss hz ht hr
    rcases Rat.le_total (a := t) (b := -1) with h | h
    · have := Rat.mul_nonneg (show 0 ≤ -1 - t by grind) (show 0 ≤ 1 - t by grind)
      grind
    · by_cases h7 : t = -1
      · subst h7; exact absurd hp (by decide +kernel)
      · grind
  · clear k1 k2 z e1 e2 key kp hss hz ht hr
    rcases Rat.le_total (a := 1) (b := t) with h | h
    · have := Rat.mul_nonneg (show 0 ≤ t - 1 by grind) (show 0 ≤ 1 + t by grind)
      grind
    · by_cases h7 : t = 1
      · subst h7; exact absurd hp (by decide +kernel)
      · grind
/-- the steps of a profile's own bed -/
theorem prof_step (p : Pf) (ho : p.okT) {k : Nat} (hk : k < p.n) (hl : 0 < p.l k) : stE p.at' k = 0 ∧ rS p.at' k = p.l k ∧ tS p.at' k = p.t k := by
  have e1 : (dS p.at' k).1 = p.l k * (dirK (p.t k)).1 := by
    show (p.at' k).1 + p.l k * (dirK (p.t k)).1 + -1 * (p.at' k).1 = _
    grind
  have e2 : (dS p.at' k).2 = p.l k * (dirK (p.t k)).2 := by
    show (p.at' k).2 + p.l k * (dirK (p.t k)).2 + -1 * (p.at' k).2 = _
    grind
  have hc := dir1_pos (ho k hk)
  have h1 := dir_one (p.t k)
  obtain ⟨d1, d2⟩ := dir_eq (p.t k)
  unfold dt at h1
  have eq : qS p.at' k = p.l k * p.l k := by
    unfold qS dt
    rw [e1, e2]
    generalize (dirK (p.t k)).1 = c at *
    generalize (dirK (p.t k)).2 = s at *
    grind
  obtain ⟨n1, n2⟩ := Go.Proofs.sq_parts (p.l k)
  have hn : 0 ≤ (p.l k).num := Rat.num_nonneg.2 (by grind)
  have hok : okRt (qS p.at' k) := by
    rw [eq]
    refine ⟨?_, ?_⟩
    · rw [n1, Int.natAbs_mul]; exact isq_sq _
    · rw [n2]; exact isq_sq _
  have er : rS p.at' k = p.l k := by
    unfold rS rtQ
    rw [eq, n1, n2, Int.natAbs_mul, nrt_sq, nrt_sq, show (((p.l k).num.natAbs : Nat) : Int) = (p.l k).num by omega, Rat.mkRat_self]
  refine ⟨?_, er, ?_⟩
  · unfold stE
    rw [if_pos (by rw [e1]; exact Rat.mul_pos hl hc), if_pos hok]
  · unfold tS
    rw [er, e1, e2]
    have hpos : 0 < p.l k + p.l k * (dirK (p.t k)).1 := by have := Rat.mul_pos hl hc; grind
    have hne : p.l k + p.l k * (dirK (p.t k)).1 ≠ 0 := by grind
    have hd := divR (a := p.l k * (dirK (p.t k)).2) hne
    have hs := sq1_ne (p.t k)
    generalize p.l k * (dirK (p.t k)).2 / (p.l k + p.l k * (dirK (p.t k)).1) = u at *
    generalize (dirK (p.t k)).1 = c at *
    generalize (dirK (p.t k)).2 = s at *
    generalize p.t k = t at *
    generalize p.l k = l at *
    have k1 : (u - t) * (l + l * c) * (1 + t * t) = 0 := by
      have : (u - t) * (l + l * c) * (1 + t * t) = u * (l + l * c) * (1 + t * t) - t * l * ((1 + t * t) + c * (1 + t * t)) := by clear hd d1 d2 h1 eq hok er e1 e2; grind
      rw [this, hd, d1]
      have : l * s * (1 + t * t) = l * (s * (1 + t * t)) := by clear hd d1 d2 h1 eq hok er e1 e2; grind
      rw [this, d2]; clear hd d1 d2 h1 eq hok er e1 e2; grind
    rcases Rat.mul_eq_zero.1 k1 with h | h
    · rcases Rat.mul_eq_zero.1 h with h | h
      · grind
      · exact absurd h hne
    · exact absurd h hs
end Go.Kk

/-
  KINK: the law's check of a right profile; the profile of a bed of small ints. Own work.
-/
namespace Go.Proofs
open Go Go.Pi Go.RowKit Go.Ar Go.Ge Go.Kk

theorem Tryz.kwrongF (q : Rat) (h : rd q ≤ 200) : Con Tryz.prog Tryz.L 15 [.str (rt q)] (.bool false) := by
  have c := Tryz.kwrong (rt q) (by have := rt_len q; omega)
  rw [show dB (¬okR (rt q)) = false from by simp [dB, (okR_rt q).2 h]] at c
  exact c
set_option maxHeartbeats 4000000 in
theorem Tryz.lcheckP (p : Pf) (hp : PSz p) : Con Tryz.prog Tryz.L 41 [.agg (pfD p)] (.int .i64 0) := by
  have hn0 := hp.n0
  have hn4 := hp.n
  have h0 := hp.at' 0 (by omega)
  have cx := Tryz.kwrongF p.s.1 (by have := h0.1; exact Nat.le_trans this (by omega))
  have cy := Tryz.kwrongF p.s.2 (by have := h0.2; exact Nat.le_trans this (by omega))
  refine rule41 Tryz.hL rfl rfl rfl ?_
  simp only [pfD, pc41, rs41, oU, oC, evX, evY, evZ, forall_const, implies_true, initE, stepF, D.clean, mvF, moF, tkF, shF, ariF, ciF, catF, scF, ebF, eqF, eqOk, eqPr, enF, notF, ngF, cvF, csF, csbF, lenF, lenSF, ixF, iaF, PX.slot, iaAF, faF, ldF, D.mem, stF, bxF, mkSF, boundF, fldF, ixAF, mmF2, D.plain, D.isPure, optAll, D.dull, callVF, splice, D.cells, D.one, sets, resT, D.flat, D.flat0, D.simple, Nat.reduceBNe, Nat.reduceLT, reduceIte, Nat.reduceEqDiff, Nat.reduceAdd, Nat.reduceMul, Nat.reduceSub, Nat.reduceLeDiff, Int.reduceToNat, Int.reduceLT, Int.reduceLE, Int.reduceEq, Int.reduceNeg, Int.reduceSub, Int.reduceAdd, Int.reduceMul, stG_own]
  refine ⟨fun h => absurd h (by omega), fun _ => ⟨fun h => absurd h (by omega), fun _ => ?_⟩⟩
  refine callF_of cx ?_
  (refine ev ?_; try with_reducible exact trivial)
  refine callF_of cy ?_
  (refine ev ?_; try with_reducible exact trivial)
  refine loopF_of (fun E => ∃ k : Nat, k ≤ p.n ∧ E = [(1, .box true [.str (rt p.s.1), .str (rt p.s.2), .sl p.n (nms p.n p.t), .sl p.n (nms p.n p.l)]), (3, .int .i64 k)])
    (fun E => match lk E 3 with | .int _ i => p.n - i.toNat | _ => 0) ⟨0, Nat.zero_le _, rfl⟩ ?_
  rintro _ ⟨k, hk, rfl⟩
  simp only [evX, evY, evZ, forall_const, implies_true, initE, stepF, D.clean, mvF, moF, tkF, shF, ariF, ciF, catF, scF, ebF, eqF, eqOk, eqPr, enF, notF, ngF, cvF, csF, csbF, lenF, lenSF, ixF, iaF, PX.slot, iaAF, faF, ldF, D.mem, stF, bxF, mkSF, boundF, fldF, ixAF, mmF2, D.plain, D.isPure, optAll, D.dull, callVF, splice, D.cells, D.one, sets, resT, D.flat, D.flat0, D.simple, Nat.reduceBNe, Nat.reduceLT, reduceIte, Nat.reduceEqDiff, Nat.reduceAdd, Nat.reduceMul, Nat.reduceSub, Nat.reduceLeDiff, Int.reduceToNat, Int.reduceLT, Int.reduceLE, Int.reduceEq, Int.reduceNeg, Int.reduceSub, Int.reduceAdd, Int.reduceMul, stG_own, ldC_nms, nms_len]
  intro h3
  have hk2 : k < p.n := by omega
  have z1 := hp.t k hk2
  have z2 := hp.l k hk2
  obtain ⟨o1, o2, o3⟩ := hp.ok k hk2
  refine ⟨⟨by omega, by omega, by omega⟩, hk2, ⟨by omega, by omega, by omega⟩, by omega, ?_⟩
  refine callF_of (Tryz.kwrongF (p.t k) (by omega)) ?_
  (refine ev ?_; try with_reducible exact trivial)
  refine callF_of (Tryz.kwrongF (p.l k) (by omega)) ?_
  (refine ev ?_; try with_reducible exact trivial)
  have ca := Tryz.rcompare (p.t k) (-1) (by omega) (by rw [rd_m1]; omega)
  have cb := Tryz.rcompare (p.t k) 1 (by omega) (by rw [rd_one1]; omega)
  rw [show rt (-1 : Rat) = [45, 49] by decide +kernel] at ca
  rw [rt1] at cb
  refine callF_of ca ?_
  simp only [evX, evY, evZ, forall_const, implies_true, initE, stepF, D.clean, mvF, moF, tkF, shF, ariF, ciF, catF, scF, ebF, eqF, eqOk, eqPr, enF, notF, ngF, cvF, csF, csbF, lenF, lenSF, ixF, iaF, PX.slot, iaAF, faF, ldF, D.mem, stF, bxF, mkSF, boundF, fldF, ixAF, mmF2, D.plain, D.isPure, optAll, D.dull, callVF, splice, D.cells, D.one, sets, resT, D.flat, D.flat0, D.simple, Nat.reduceBNe, Nat.reduceLT, reduceIte, Nat.reduceEqDiff, Nat.reduceAdd, Nat.reduceMul, Nat.reduceSub, Nat.reduceLeDiff, Int.reduceToNat, Int.reduceLT, Int.reduceLE, Int.reduceEq, Int.reduceNeg, Int.reduceSub, Int.reduceAdd, Int.reduceMul, stG_own, cmp_m1]
  refine ⟨fun _ => ?_, fun h8 => absurd o1 h8⟩
  refine callF_of cb ?_
  simp only [evX, evY, evZ, forall_const, implies_true, initE, stepF, D.clean, mvF, moF, tkF, shF, ariF, ciF, catF, scF, ebF, eqF, eqOk, eqPr, enF, notF, ngF, cvF, csF, csbF, lenF, lenSF, ixF, iaF, PX.slot, iaAF, faF, ldF, D.mem, stF, bxF, mkSF, boundF, fldF, ixAF, mmF2, D.plain, D.isPure, optAll, D.dull, callVF, splice, D.cells, D.one, sets, resT, D.flat, D.flat0, D.simple, Nat.reduceBNe, Nat.reduceLT, reduceIte, Nat.reduceEqDiff, Nat.reduceAdd, Nat.reduceMul, Nat.reduceSub, Nat.reduceLeDiff, Int.reduceToNat, Int.reduceLT, Int.reduceLE, Int.reduceEq, Int.reduceNeg, Int.reduceSub, Int.reduceAdd, Int.reduceMul, stG_own, cmp_p1]
  refine ⟨fun _ => ?_, fun h8 => absurd o2 h8⟩
  refine callF_of (Tryz.rsign (p.l k) (by omega)) ?_
  simp only [evX, evY, evZ, forall_const, implies_true, initE, stepF, D.clean, mvF, moF, tkF, shF, ariF, ciF, catF, scF, ebF, eqF, eqOk, eqPr, enF, notF, ngF, cvF, csF, csbF, lenF, lenSF, ixF, iaF, PX.slot, iaAF, faF, ldF, D.mem, stF, bxF, mkSF, boundF, fldF, ixAF, mmF2, D.plain, D.isPure, optAll, D.dull, callVF, splice, D.cells, D.one, sets, resT, D.flat, D.flat0, D.simple, Nat.reduceBNe, Nat.reduceLT, reduceIte, Nat.reduceEqDiff, Nat.reduceAdd, Nat.reduceMul, Nat.reduceSub, Nat.reduceLeDiff, Int.reduceToNat, Int.reduceLT, Int.reduceLE, Int.reduceEq, Int.reduceNeg, Int.reduceSub, Int.reduceAdd, Int.reduceMul, stG_own, sgn_le]
  exact ⟨fun h9 => absurd o3 h9, fun _ => ⟨by omega, ⟨k + 1, by omega, rfl⟩, by omega⟩⟩
end Go.Proofs
namespace Go.Kk
open Go.Ge Go.Ar Go.Proofs

/-- a bed of small ints -/
def SmB (b : Nat → Pt) (n : Nat) : Prop := ∀ k, k ≤ n → ∃ x y : Int, i8K x ∧ i8K y ∧ b k = ((x : Rat), (y : Rat))
theorem nrt1 : nrt 1 = 1 := by decide +kernel
theorem rtQ_int (M : Nat) : rtQ ((M : Int) : Rat) = ((nrt M : Nat) : Rat) ∧ (okRt ((M : Int) : Rat) ↔ isq M) := by
  have h1 : (((M : Int) : Rat)).num = M := rfl
  have h2 : (((M : Int) : Rat)).den = 1 := rfl
  refine ⟨?_, ?_⟩
  · unfold rtQ
    rw [h1, h2, Int.natAbs_natCast, nrt1, Rat.mkRat_one]
    rfl
  · unfold okRt
    rw [h1, h2, Int.natAbs_natCast]
    exact ⟨fun h => h.1, fun h => ⟨h, by unfold isq; rw [nrt1]⟩⟩
theorem CB.rd3 {D k : Nat} {q : Rat} (h : CB D k q) (h0 : 0 < D) (h1 : D < 1000) (h2 : k < 1000) : rd q ≤ 3 := by
  obtain ⟨u, h3, h4⟩ := h
  have hd : (D : Rat) ≠ 0 := fun e => by
    have : D = 0 := by exact_mod_cast e
    omega
  have e : q = mkRat u D := by rw [Rat.mkRat_eq_div, ← h4]; grind
  rw [e]
  exact rd_mk (by omega) (dd_len_le (by decide) (Nat.lt_of_le_of_lt h3 h2)) (dd_len_le (by decide) h1)
/-- a step of such a bed -/
theorem smb_step {b : Nat → Pt} {n k : Nat} (h : SmB b n) (hk : k < n) : ∃ X Y : Int, X.natAbs ≤ 255 ∧ Y.natAbs ≤ 255 ∧ dS b k = ((X : Rat), (Y : Rat)) ∧ qS b k = (((X * X + Y * Y).natAbs : Int) : Rat) := by
  obtain ⟨x, y, ⟨a1, a2⟩, ⟨a3, a4⟩, e1⟩ := h k (by omega)
  obtain ⟨z, w, ⟨c1, c2⟩, ⟨c3, c4⟩, e2⟩ := h (k + 1) (by omega)
  have e : dS b k = (((z - x : Int) : Rat), ((w - y : Int) : Rat)) := by
    unfold dS mn pl
    rw [e1, e2]
    simp only [Prod.mk.injEq, Rat.intCast_sub]
    constructor <;> grind
  refine ⟨z - x, w - y, by omega, by omega, e, ?_⟩
  unfold qS dt
  rw [e]
  simp only
  have hnn : 0 ≤ (z - x) * (z - x) + (w - y) * (w - y) := by
    have h1 : 0 ≤ (z - x) * (z - x) := by rw [← Int.natAbs_mul_self' (z - x)]; exact Int.natCast_nonneg _
    have h2 : 0 ≤ (w - y) * (w - y) := by rw [← Int.natAbs_mul_self' (w - y)]; exact Int.natCast_nonneg _
    omega
  rw [show ((((z - x) * (z - x) + (w - y) * (w - y)).natAbs : Nat) : Int) = (z - x) * (z - x) + (w - y) * (w - y) by omega, Rat.intCast_add, Rat.intCast_mul, Rat.intCast_mul]
end Go.Kk

/-
  KINK: the profile of a bed of small ints has right sizes. Own work.
-/
namespace Go.Kk
open Go.Ge Go.Ar Go.Proofs

def prS (b : Nat → Pt) (n : Nat) : Pf := ⟨n, b 0, tS b, rS b⟩
theorem stE_0 {b : Nat → Pt} {k : Nat} (h : stE b k = 0) : 0 < (dS b k).1 ∧ okRt (qS b k) := by
  unfold stE at h
  split at h
  · rename_i h1
    split at h
    · rename_i h2; exact ⟨h1, h2⟩
    · cases h
  · cases h
/-- what a good step gives -/
theorem good_step {b : Nat → Pt} {k : Nat} (h : stE b k = 0) : 0 < rS b k ∧ rS b k * (dirK (tS b k)).1 = (dS b k).1 ∧ rS b k * (dirK (tS b k)).2 = (dS b k).2 ∧ -1 < tS b k ∧ tS b k < 1 := by
  obtain ⟨h1, h2⟩ := stE_0 h
  obtain ⟨q1, q2⟩ := rtQ_sq (qS_nn b k) h2
  have e : rS b k * rS b k = (dS b k).1 * (dS b k).1 + (dS b k).2 * (dS b k).2 := q1
  have q3 : 0 ≤ rS b k := q2
  obtain ⟨a1, a2, a3, a4⟩ := dir_half e h1 q3
  refine ⟨?_, a1, a2, a3, a4⟩
  by_cases hz : rS b k = 0
  · rw [hz, Rat.zero_mul] at a1
    rw [← a1] at h1
    exact absurd h1 (by decide +kernel)
  · generalize rS b k = r at *
    grind
theorem step_sz {b : Nat → Pt} {n k : Nat} (hb : SmB b n) (hk : k < n) (h : stE b k = 0) : rd (rS b k) ≤ 3 ∧ rd (tS b k) ≤ 3 ∧ Sz 3 (dirK (tS b k)) := by
  obtain ⟨X, Y, hX, hY, ed, eq⟩ := smb_step hb hk
  obtain ⟨h1, h2⟩ := stE_0 h
  obtain ⟨g1, g2, g3, _, _⟩ := good_step h
  obtain ⟨r1, r2⟩ := rtQ_int (X * X + Y * Y).natAbs
  have hM : (X * X + Y * Y).natAbs ≤ 130050 := by
    have a1 : (X * X).natAbs ≤ 255 * 255 := by rw [Int.natAbs_mul]; exact Nat.mul_le_mul hX hX
    have a2 : (Y * Y).natAbs ≤ 255 * 255 := by rw [Int.natAbs_mul]; exact Nat.mul_le_mul hY hY
    omega
  have hs := (nrt_spec (X * X + Y * Y).natAbs).1
  generalize (X * X + Y * Y).natAbs = M at *
  have er : rS b k = ((nrt M : Nat) : Rat) := by unfold rS; rw [eq]; exact r1
  have hr : nrt M ≤ 360 := by
    rcases Nat.lt_or_ge 360 (nrt M) with h | h
    · have := Nat.mul_le_mul (show 361 ≤ nrt M from h) (show 361 ≤ nrt M from h); omega
    · exact h
  have ed1 : (dS b k).1 = (X : Rat) := by rw [ed]
  have ed2 : (dS b k).2 = (Y : Rat) := by rw [ed]
  have hX0 : 0 < X := by rw [ed1] at h1; exact_mod_cast h1
  generalize nrt M = R at *
  have hR0 : 0 < R := by
    rcases Nat.eq_zero_or_pos R with h | h
    · rw [er, h] at g1; exact absurd g1 (by decide +kernel)
    · exact h
  have c1 : CB 1 360 (rS b k) := ⟨R, by omega, by rw [er, Rat.intCast_natCast]; grind⟩
  have hne : ((R : Nat) : Rat) + (X : Rat) ≠ 0 := by
    have a : (0 : Rat) < ((R : Nat) : Rat) := by exact_mod_cast hR0
    have c : (0 : Rat) < (X : Rat) := by exact_mod_cast hX0
    grind
  have c2 : CB (R + X.natAbs) 255 (tS b k) := by
    refine ⟨Y, hY, ?_⟩
    unfold tS
    rw [er, ed1, ed2]
    have : (((R + X.natAbs : Nat)) : Rat) = ((R : Nat) : Rat) + (X : Rat) := by
      rw [Rat.natCast_add]
      congr 1
      rw [← Rat.intCast_natCast, show ((X.natAbs : Nat) : Int) = X by omega]
    rw [this]
    exact divR hne
  have c3 : CB R 255 (dirK (tS b k)).1 := ⟨X, hX, by rw [← ed1, ← g2, er, Rat.mul_comm]⟩
  have c4 : CB R 255 (dirK (tS b k)).2 := ⟨Y, hY, by rw [← ed2, ← g3, er, Rat.mul_comm]⟩
  exact ⟨c1.rd3 (by decide) (by decide) (by decide), c2.rd3 (by omega) (by omega) (by decide), c3.rd3 hR0 (by omega) (by decide), c4.rd3 hR0 (by omega) (by decide)⟩
theorem prS_at {b : Nat → Pt} {n : Nat} (hst : ∀ k, k < n → stE b k = 0) : ∀ k, k ≤ n → (prS b n).at' k = b k
  | 0, _ => rfl
  | k + 1, hk => by
    have ih := prS_at hst k (by omega)
    obtain ⟨_, g2, g3, _, _⟩ := good_step (hst k (by omega))
    show pl ((prS b n).at' k) (dirK (tS b k)) (rS b k) = b (k + 1)
    rw [ih]
    unfold pl
    rw [g2, g3]
    unfold dS mn pl
    simp only
    apply Prod.ext
    · simp only; grind
    · simp only; grind
theorem smb_sz {b : Nat → Pt} {n k : Nat} (h : SmB b n) (hk : k ≤ n) : Sz 3 (b k) := by
  obtain ⟨x, y, ⟨a1, a2⟩, ⟨a3, a4⟩, e⟩ := h k hk
  rw [e]
  exact ⟨(CB.int (k := 128) (z := x) (by omega)).rd3 (by decide) (by decide) (by decide), (CB.int (k := 128) (z := y) (by omega)).rd3 (by decide) (by decide) (by decide)⟩
theorem tan_sz {t u : Rat} (ht : rd t ≤ 3) (hu : rd u ≤ 3) : rd (tanH t u) ≤ 40 := by
  unfold tanH
  have h1 := rd_sub t u
  have h2 := rd_mul t u
  have h3 := rd_add 1 (t * u)
  have h4 := rd_div (t - u) (1 + t * u)
  rw [rd_one1] at h3
  omega
theorem prS_psz {b : Nat → Pt} {n : Nat} (hb : SmB b n) (h1 : 1 ≤ n) (h4 : n ≤ 4) (hst : ∀ k, k < n → stE b k = 0) : PSz (prS b n) := by
  have ht := fun k (hk : k < n) => step_sz hb hk (hst k hk)
  have hg := fun k (hk : k < n) => good_step (hst k hk)
  have nr : ∀ k, k < n → Sz 3 (nrm (tS b k)) := fun k hk => Sz.up (ht k hk).2.2
  have av : ∀ {p q : Pt}, Sz 3 p → Sz 3 q → Sz 60 (avg p q) := fun {p q} hp hq => by
    have a1 := hp.pl hq (Nat.le_of_eq rd_one1)
    have a2 := rd_dt hp hq
    have a3 := rd_add 1 (dt p q)
    have a4 := rd_div 1 (1 + dt p q)
    rw [rd_one1] at a3 a4
    have a0 : Sz 1 ((0, 0) : Pt) := ⟨Nat.le_of_eq rd_zero0, Nat.le_of_eq rd_zero0⟩
    exact (a0.pl a1 (c := 40) (by omega)).mono (by omega)
  refine ⟨h1, h4, fun k hk => Nat.le_trans (ht k hk).2.1 (by omega), fun k hk => Nat.le_trans (ht k hk).1 (by omega), fun k hk => ?_, fun k hk => ?_, fun k hk => ?_, fun k hk => ⟨(hg k hk).2.2.2.1, (hg k hk).2.2.2.2, (hg k hk).1⟩⟩
  · rw [prS_at hst k hk]; exact (smb_sz hb hk).mono (by omega)
  · unfold Pf.ax
    split
    · exact (nr 0 h1).mono (by omega)
    · split
      · exact (nr _ (by have : (prS b n).n = n := rfl; omega)).mono (by omega)
      · exact (av (nr _ (by have : k ≤ n := hk; omega)) (nr _ (by have : k ≤ n := hk; have : (prS b n).n = n := rfl; omega))).mono (by omega)
  · rw [gr_eq (prS b n) (fun j hj => ⟨(hg j hj).2.2.2.1, (hg j hj).2.2.2.2⟩) hk]
    have z : rd (0 : Rat) ≤ 40 := by rw [rd_zero0]; omega
    have hkn : k < n := hk
    have e1 : rd (if k + 1 = (prS b n).n then 0 else tanH ((prS b n).t k) ((prS b n).t (k + 1))) ≤ 40 := by
      split
      · exact z
      · exact tan_sz (ht k hkn).2.1 (ht (k + 1) (by have : (prS b n).n = n := rfl; omega)).2.1
    have e2 : rd (if k = 0 then 0 else tanH ((prS b n).t k) ((prS b n).t (k - 1))) ≤ 40 := by
      split
      · exact z
      · exact tan_sz (ht k hkn).2.1 (ht (k - 1) (by omega)).2.1
    have h3 := rd_sub (if k + 1 = (prS b n).n then 0 else tanH ((prS b n).t k) ((prS b n).t (k + 1))) (if k = 0 then 0 else tanH ((prS b n).t k) ((prS b n).t (k - 1)))
    omega
end Go.Kk

/-
  KINK: the law Beds. Own work.
-/
namespace Go.Proofs
open Go Go.Pi Go.RowKit Go.Ar Go.Ge Go.Kk

/-- Of gives a planned profile for its own bed -/
theorem Tryz.kOfOwn (p : PlK) (hp : p.ok) : Con Tryz.prog Tryz.L 43 [.sl (p.pf.n + 1) (pts (lst (p.pf.n + 1) (p.pf.bd 0)))] (.tup [.agg (pfD p.pf), .int .i64 0]) := by
  have hs := p.psz hp
  have hn := p.n4 hp
  have ho : p.pf.okT := fun k hk => ⟨(hs.ok k hk).1, (hs.ok k hk).2.1⟩
  have st := fun k (hk : k < p.pf.n) => prof_step p.pf ho hk (hs.ok k hk).2.2
  have c := Tryz.kOf p.pf.at' p.pf.n hn.1 hn.2 (fun k hk => (p.at4 k).mono (by omega)) (fun k hk _ => by
    rw [(st k hk).2.1, (st k hk).2.2]
    exact ⟨Nat.le_trans (p.rlen k) (by omega), Nat.le_trans (p.t6 k).sz (by omega)⟩)
  have hf : ∀ m, m ≤ p.pf.n → fe p.pf.at' m = 0 := by
    intro m
    induction m with
    | zero => intro _; rfl
    | succ m ih =>
      intro hm
      show (if fe p.pf.at' m = 0 then stE p.pf.at' m else fe p.pf.at' m) = 0
      rw [if_pos (ih (by omega))]
      exact (st m (by omega)).1
  rw [if_pos (hf _ (Nat.le_refl _))] at c
  rw [bd_zero]
  have e1 : nms p.pf.n (tS p.pf.at') = nms p.pf.n p.pf.t := lst_congr fun k hk => by rw [(st k hk).2.2]
  have e2 : nms p.pf.n (rS p.pf.at') = nms p.pf.n p.pf.l := lst_congr fun k hk => by rw [(st k hk).2.1]
  have e : pfD ⟨p.pf.n, p.pf.at' 0, tS p.pf.at', rS p.pf.at'⟩ = pfD p.pf := by
    unfold pfD
    simp only
    rw [e1, e2]
    rfl
  rw [e] at c
  exact c
theorem Tryz.kOfS (N : Nat) (cs : List D) (h : N < 2) : Con Tryz.prog Tryz.L 43 [.sl N cs] (.tup [.agg [.str [], .str [], .sl 0 [], .sl 0 []], .int .i64 5]) := by
  refine rule43f Tryz.hL rfl rfl rfl ?_
  (simp only [pc43f, rs43f]; refine ev ?_; try with_reducible exact trivial)
  exact ⟨fun _ => rfl, fun h => absurd (by omega) h⟩
/-- the points of a list of small ints -/
def q8P (l : List (Int × Int)) (k : Nat) : Pt := (((l.getD k (0, 0)).1 : Rat), ((l.getD k (0, 0)).2 : Rat))
/-- what the law awaits -/
def wantB (l : List (Int × Int)) (i : Nat) : Int := if l.length < 2 then 5 else fe (q8P l) (i - 1)

set_option maxRecDepth 100000 in
set_option maxHeartbeats 16000000 in
theorem Tryz.lBeds (p : PlK) (hp : p.fit) (l : List (Int × Int)) (hl : l.length ≤ 1048576) (h8 : ∀ q ∈ l, i8K q.1 ∧ i8K q.2) : Con Tryz.prog Tryz.L 11 [.agg p.D, .sl l.length (l.flatMap fun q => [.int .i8 q.1, .int .i8 q.2])] (.bool true) := by
  have ck := Tryz.kknown
  refine rule11 Tryz.hL rfl rfl rfl ?_
  simp only [PlK.D, pc11, rs11, oU, oC, evX, evY, evZ, forall_const, implies_true, initE, stepF, D.clean, mvF, moF, tkF, shF, ariF, ciF, catF, scF, ebF, eqF, eqOk, eqPr, enF, notF, ngF, cvF, csF, csbF, lenF, lenSF, ixF, iaF, PX.slot, iaAF, faF, ldF, D.mem, stF, bxF, mkSF, boundF, fldF, ixAF, mmF2, D.plain, D.isPure, optAll, D.dull, callVF, splice, D.cells, D.one, sets, resT, D.flat, D.flat0, D.simple, Nat.reduceBNe, Nat.reduceLT, reduceIte, Nat.reduceEqDiff, Nat.reduceAdd, Nat.reduceMul, Nat.reduceSub, Nat.reduceLeDiff, Int.reduceToNat, Int.reduceLT, Int.reduceLE, Int.reduceEq, Int.reduceNeg, Int.reduceSub, Int.reduceAdd, Int.reduceMul, stG_own]
  refine callF_of ck ?_
  (refine ev ?_; try with_reducible exact trivial)
  refine ⟨fun h1 => ⟨fun h2 => ?_, fun h2 => ?_⟩, fun h1 => ?_⟩
  · refine callF_of ck ?_
    (refine ev ?_; try with_reducible exact trivial)
  · have hok := hp.ok (by omega)
    have hs := p.psz hok
    have c1 := Tryz.makeOk p hok
    have c2 := Tryz.ofOk p.pf hs
    have c3 := Tryz.mbed p.pf hs 0 (by rw [rd_zero0]; omega)
    rw [rt_z] at c3
    have c4 := Tryz.kOfOwn p hok
    have hn4 := hs.n
    have hn0 := hs.n0
    have hl5 : l.length ≤ 5 := by omega
    have s1 := Tryz.msameN p.pf.n p.pf.t (by omega)
    have s2 := Tryz.msameN p.pf.n p.pf.l (by omega)
    have hpl := plD_len l
    generalize p.pf = f at *
    simp only [PlK.D] at c1
    simp only [pfD, moD] at c1 c2 c3 c4
    refine callF_of c1 ?_
    (refine ev ?_; try with_reducible exact trivial)
    refine callF_of c2 ?_
    (refine ev ?_; try with_reducible exact trivial)
    refine callF_of c3 ?_
    (refine ev ?_; try with_reducible exact trivial)
    refine callF_of c4 ?_
    (refine ev ?_; try with_reducible exact trivial)
    refine callF_of s1 ?_
    (refine ev ?_; try with_reducible exact trivial)
    refine callF_of s2 ?_
    (refine ev ?_; try with_reducible exact trivial)
    clear c1 c2 c3 c4 s1 s2
    clear hs hn4 hn0 hok h1
    refine ⟨fun h3 => ?_, fun h3 => ?_⟩
    · have hn : l.length < 2 := by omega
      refine loopF_of (fun E => ∃ i : Nat, i ≤ l.length ∧ E = [(1, .sl l.length (l.flatMap fun q => [.int .i8 q.1, .int .i8 q.2])), (8, .own true 25 i (pts (lst i (q8P l)))), (9, .int .i64 5), (10, .int .i64 i)])
        (fun E => match lk E 10 with | .int _ i => l.length - i.toNat | _ => 0) ⟨0, Nat.zero_le _, rfl⟩ ?_
      rintro _ ⟨i, hi, rfl⟩
      have hl2 := pts_len (lst i (q8P l))
      rw [lst_len] at hl2
      by_cases hlt : i < l.length
      · have hpk := plD_at l i hlt
        have hq := h8 (l.getD i (0, 0)) (by rw [List.getD_eq_getElem?_getD, List.getElem?_eq_getElem hlt]; exact List.getElem_mem hlt)
        have cat := Tryz.kat (l.getD i (0, 0)).1 (l.getD i (0, 0)).2 (by rw [inR_i64]; unfold i8K at hq; omega) (by rw [inR_i64]; unfold i8K at hq; omega)
        have ep : pts (lst (i + 1) (q8P l)) = pts (lst i (q8P l)) ++ [.str (rt ((l.getD i (0, 0)).1 : Rat)), .str (rt ((l.getD i (0, 0)).2 : Rat))] := by
          rw [lst_succ, pts_snoc]; rfl
        obtain ⟨⟨a1, a2⟩, a3, a4⟩ := hq
        simp only [ptD] at cat
        simp only [evX, evY, evZ, forall_const, implies_true, initE, stepF, D.clean, mvF, moF, tkF, shF, ariF, ciF, catF, scF, ebF, eqF, eqOk, eqPr, enF, notF, ngF, cvF, csF, csbF, lenF, lenSF, ixF, iaF, PX.slot, iaAF, faF, ldF, D.mem, stF, bxF, mkSF, boundF, fldF, ixAF, mmF2, D.plain, D.isPure, optAll, D.dull, callVF, splice, D.cells, D.one, sets, resT, D.flat, D.flat0, D.simple, Nat.reduceBNe, Nat.reduceLT, reduceIte, Nat.reduceEqDiff, Nat.reduceAdd, Nat.reduceMul, Nat.reduceSub, Nat.reduceLeDiff, Int.reduceToNat, Int.reduceLT, Int.reduceLE, Int.reduceEq, Int.reduceNeg, Int.reduceSub, Int.reduceAdd, Int.reduceMul, stG_own, hpk]
        refine ⟨fun _ => ?_, fun h => absurd (by omega) h⟩
        refine ⟨⟨by omega, by omega, by omega⟩, by omega, by omega, ⟨by omega, by omega, by omega⟩, by omega, by omega, ?_⟩
        refine callF_of cat ?_
        (refine ev ?_; try with_reducible exact trivial)
        exact ⟨by omega, by omega, fun _ => ⟨by omega, ⟨i + 1, by omega, by rw [ep]; exact ⟨rfl, rfl⟩⟩, by omega⟩, fun _ => ⟨by omega, ⟨i + 1, by omega, by rw [ep]; exact ⟨rfl, rfl⟩⟩, by omega⟩⟩
      · obtain rfl : i = l.length := by omega
        (refine ev ?_; try with_reducible exact trivial)
        refine ⟨fun h => absurd h (by omega), fun _ => ?_⟩
        refine callF_of (Tryz.kOfS _ _ hn) ?_
        (refine ev ?_; try with_reducible exact trivial)
        exact ⟨by omega, fun h => absurd (by omega) h⟩
    · have hn : 2 ≤ l.length := by omega
      have hsm : SmB (q8P l) (l.length - 1) := fun k hk => by
        have hq := h8 (l.getD k (0, 0)) (by rw [List.getD_eq_getElem?_getD, List.getElem?_eq_getElem (by omega)]; exact List.getElem_mem (by omega))
        exact ⟨_, _, hq.1, hq.2, rfl⟩
      refine loopF_of (fun E => ∃ i : Nat, i ≤ l.length ∧ E = [(1, .sl l.length (l.flatMap fun q => [.int .i8 q.1, .int .i8 q.2])), (8, .own true 25 i (pts (lst i (q8P l)))), (9, .int .i64 (fe (q8P l) (i - 1))), (10, .int .i64 i)])
        (fun E => match lk E 10 with | .int _ i => l.length - i.toNat | _ => 0) ⟨0, Nat.zero_le _, rfl⟩ ?_
      rintro _ ⟨i, hi, rfl⟩
      have hl2 := pts_len (lst i (q8P l))
      rw [lst_len] at hl2
      by_cases hlt : i < l.length
      · have hpk := plD_at l i hlt
        have hq := h8 (l.getD i (0, 0)) (by rw [List.getD_eq_getElem?_getD, List.getElem?_eq_getElem hlt]; exact List.getElem_mem hlt)
        have cat := Tryz.kat (l.getD i (0, 0)).1 (l.getD i (0, 0)).2 (by rw [inR_i64]; unfold i8K at hq; omega) (by rw [inR_i64]; unfold i8K at hq; omega)
        have ep : pts (lst (i + 1) (q8P l)) = pts (lst i (q8P l)) ++ [.str (rt ((l.getD i (0, 0)).1 : Rat)), .str (rt ((l.getD i (0, 0)).2 : Rat))] := by
          rw [lst_succ, pts_snoc]; rfl
        obtain ⟨⟨a1, a2⟩, a3, a4⟩ := hq
        simp only [ptD] at cat
        have hfe : 1 ≤ i → fe (q8P l) i = if fe (q8P l) (i - 1) = 0 then stE (q8P l) (i - 1) else fe (q8P l) (i - 1) := fun h => by
          obtain ⟨j, rfl⟩ : ∃ j, i = j + 1 := ⟨i - 1, by omega⟩
          rfl
        simp only [evX, evY, evZ, forall_const, implies_true, initE, stepF, D.clean, mvF, moF, tkF, shF, ariF, ciF, catF, scF, ebF, eqF, eqOk, eqPr, enF, notF, ngF, cvF, csF, csbF, lenF, lenSF, ixF, iaF, PX.slot, iaAF, faF, ldF, D.mem, stF, bxF, mkSF, boundF, fldF, ixAF, mmF2, D.plain, D.isPure, optAll, D.dull, callVF, splice, D.cells, D.one, sets, resT, D.flat, D.flat0, D.simple, Nat.reduceBNe, Nat.reduceLT, reduceIte, Nat.reduceEqDiff, Nat.reduceAdd, Nat.reduceMul, Nat.reduceSub, Nat.reduceLeDiff, Int.reduceToNat, Int.reduceLT, Int.reduceLE, Int.reduceEq, Int.reduceNeg, Int.reduceSub, Int.reduceAdd, Int.reduceMul, stG_own, hpk]
        refine ⟨fun _ => ?_, fun h => absurd (by omega) h⟩
        refine ⟨⟨by omega, by omega, by omega⟩, by omega, by omega, ⟨by omega, by omega, by omega⟩, by omega, by omega, ?_⟩
        refine callF_of cat ?_
        (refine ev ?_; try with_reducible exact trivial)
        refine ⟨by omega, by omega, fun h0 => ?_, fun h0 => ?_⟩
        · have h1 : 1 ≤ i := by omega
          replace hfe := hfe h1
          refine ⟨fun h4 => ?_, fun h4 => ?_⟩
          · exact ⟨by omega, ⟨i + 1, by omega, by rw [ep, Nat.add_sub_cancel, hfe, if_neg h4]; exact ⟨rfl, rfl, rfl⟩⟩, by omega⟩
          · have h5 : fe (q8P l) (i - 1) = 0 := Classical.not_not.1 h4
            rw [if_pos h5] at hfe
            rw [← ep, h5]
            have e9 : ((i : Int) - 1).toNat = i - 1 := by omega
            have hz := smb_sz hsm (k := i) (by omega)
            have hy := smb_sz hsm (k := i - 1) (by omega)
            have ed : dS (q8P l) (i - 1) = pl (q8P l i) (q8P l (i - 1)) (-1) := by unfold dS Kk.mn; rw [show i - 1 + 1 = i by omega]
            have cm := Tryz.lkplus (q8P l i) (q8P l (i - 1)) (-1) (hz.mono (by omega)) (hy.mono (by omega)) (by rw [rd_m1]; omega)
            rw [show rt (-1 : Rat) = [45, 49] by decide +kernel, ← ed] at cm
            have hds : Sz 10 (dS (q8P l) (i - 1)) := by
              rw [ed]; exact (hz.mn hy).mono (by omega)
            have cs := Tryz.rsign (dS (q8P l) (i - 1)).1 (by have := hds.1; omega)
            have cd := Tryz.lkdot _ _ (hds.mono (show 10 ≤ 2000 by omega)) (hds.mono (show 10 ≤ 2000 by omega))
            have hq2 := rd_dt hds hds
            rw [show dt (dS (q8P l) (i - 1)) (dS (q8P l) (i - 1)) = qS (q8P l) (i - 1) from rfl] at cd hq2
            have eb : ∀ k, q8P l k = ((q8P l k).1, (q8P l k).2) := fun _ => rfl
            simp only [ptD] at cm cd
            simp only [evX, evY, evZ, forall_const, implies_true, initE, stepF, D.clean, mvF, moF, tkF, shF, ariF, ciF, catF, scF, ebF, eqF, eqOk, eqPr, enF, notF, ngF, cvF, csF, csbF, lenF, lenSF, ixF, iaF, PX.slot, iaAF, faF, ldF, D.mem, stF, bxF, mkSF, boundF, fldF, ixAF, mmF2, D.plain, D.isPure, optAll, D.dull, callVF, splice, D.cells, D.one, sets, resT, D.flat, D.flat0, D.simple, Nat.reduceBNe, Nat.reduceLT, reduceIte, Nat.reduceEqDiff, Nat.reduceAdd, Nat.reduceMul, Nat.reduceSub, Nat.reduceLeDiff, Int.reduceToNat, Int.reduceLT, Int.reduceLE, Int.reduceEq, Int.reduceNeg, Int.reduceSub, Int.reduceAdd, Int.reduceMul, stG_own, ldC_ptsL, ptsL_len, pD, e9]
            refine ⟨⟨by omega, by omega, by omega⟩, by omega, ⟨by omega, by omega⟩, ⟨by omega, by omega, by omega⟩, by omega, ?_⟩
            refine callF_of cm ?_
            (refine ev ?_; try with_reducible exact trivial)
            refine callF_of cs ?_
            simp only [evX, evY, evZ, forall_const, implies_true, initE, stepF, D.clean, mvF, moF, tkF, shF, ariF, ciF, catF, scF, ebF, eqF, eqOk, eqPr, enF, notF, ngF, cvF, csF, csbF, lenF, lenSF, ixF, iaF, PX.slot, iaAF, faF, ldF, D.mem, stF, bxF, mkSF, boundF, fldF, ixAF, mmF2, D.plain, D.isPure, optAll, D.dull, callVF, splice, D.cells, D.one, sets, resT, D.flat, D.flat0, D.simple, Nat.reduceBNe, Nat.reduceLT, reduceIte, Nat.reduceEqDiff, Nat.reduceAdd, Nat.reduceMul, Nat.reduceSub, Nat.reduceLeDiff, Int.reduceToNat, Int.reduceLT, Int.reduceLE, Int.reduceEq, Int.reduceNeg, Int.reduceSub, Int.reduceAdd, Int.reduceMul, stG_own, sgn_le]
            refine ⟨fun h6 => ?_, fun h6 => ?_⟩
            · exact ⟨by omega, ⟨i + 1, by omega, by rw [Nat.add_sub_cancel, hfe]; unfold stE; rw [if_neg h6]; exact ⟨rfl, rfl, rfl⟩⟩, by omega⟩
            · replace h6 := Classical.not_not.1 h6
              refine callF_of cd ?_
              (refine ev ?_; try with_reducible exact trivial)
              by_cases hok : okRt (qS (q8P l) (i - 1))
              · obtain ⟨q1, q2⟩ := rtQ_sq (qS_nn (q8P l) (i - 1)) hok
                have hse : stE (q8P l) (i - 1) = 0 := by unfold stE; rw [if_pos h6, if_pos hok]
                have hsz := step_sz hsm (k := i - 1) (by omega) hse
                have cr := Tryz.rrootY (rS (q8P l) (i - 1)) q2 (by omega)
                rw [show rS (q8P l) (i - 1) * rS (q8P l) (i - 1) = qS (q8P l) (i - 1) from q1] at cr
                refine callF_of cr ?_
                (refine ev ?_; try with_reducible exact trivial)
                exact ⟨by omega, ⟨i + 1, by omega, by rw [Nat.add_sub_cancel, hfe, hse]; exact ⟨rfl, rfl, rfl⟩⟩, by omega⟩
              · have hse : stE (q8P l) (i - 1) = 29 := by unfold stE; rw [if_pos h6, if_neg hok]
                have cr := Tryz.rrootN (qS (q8P l) (i - 1)) (qS_nn (q8P l) (i - 1)) (by omega) hok
                refine callF_of cr ?_
                (refine ev ?_; try with_reducible exact trivial)
                exact ⟨by omega, ⟨i + 1, by omega, by rw [Nat.add_sub_cancel, hfe, hse]; exact ⟨rfl, rfl, rfl⟩⟩, by omega⟩
        · have h1 : i = 0 := by omega
          exact ⟨by omega, ⟨i + 1, by omega, by rw [ep, h1]; exact ⟨rfl, rfl, rfl⟩⟩, by omega⟩
      · obtain rfl : i = l.length := by omega
        obtain ⟨n, hnn⟩ : ∃ n, l.length = n + 1 := ⟨l.length - 1, by omega⟩
        have co := Tryz.kOf (q8P l) n (by omega) (by omega) (fun k hk => (smb_sz hsm (by omega)).mono (by omega)) (fun k hk h => by
          have := step_sz hsm (k := k) (by omega) h
          exact ⟨by omega, by omega⟩)
        rw [hnn, Nat.add_sub_cancel] at hsm
        rw [hnn] at hl2
        by_cases hf : fe (q8P l) n = 0
        · rw [if_pos hf] at co
          have hall : ∀ m, m ≤ n → fe (q8P l) m = 0 := fun m hm => by
            by_cases h : fe (q8P l) m = 0
            · exact h
            · have := fe_stop h (n - m)
              rw [show m + (n - m) = n by omega, hf] at this
              exact this.symm
          have hst : ∀ k, k < n → stE (q8P l) k = 0 := fun k hk => by
            have h1 := hall (k + 1) (by omega)
            have h2 : (if fe (q8P l) k = 0 then stE (q8P l) k else fe (q8P l) k) = 0 := h1
            rwa [if_pos (hall k (by omega))] at h2
          have hps := prS_psz hsm (by omega) (by omega) hst
          have hat := prS_at hst
          have c1 := Tryz.lcheckP (prS (q8P l) n) hps
          have c2 := Tryz.ofOk (prS (q8P l) n) hps
          have c3 := Tryz.mbed (prS (q8P l) n) hps 0 (by rw [rd_zero0]; omega)
          rw [rt_z, bd_zero] at c3
          have el : lst ((prS (q8P l) n).n + 1) (prS (q8P l) n).at' = lst (n + 1) (q8P l) := lst_congr fun k hk => hat k (by have : k < n + 1 := hk; omega)
          rw [el] at c3
          have c4 := Tryz.msameP (n + 1) (q8P l) (by omega)
          have en : (prS (q8P l) n).n = n := rfl
          simp only [pfD, moD, en] at c1 c2 c3 co
          simp only [prS] at c1 c2 c3
          simp only [hnn, Nat.add_sub_cancel, hf, evX, evY, evZ, forall_const, implies_true, initE, stepF, D.clean, mvF, moF, tkF, shF, ariF, ciF, catF, scF, ebF, eqF, eqOk, eqPr, enF, notF, ngF, cvF, csF, csbF, lenF, lenSF, ixF, iaF, PX.slot, iaAF, faF, ldF, D.mem, stF, bxF, mkSF, boundF, fldF, ixAF, mmF2, D.plain, D.isPure, optAll, D.dull, callVF, splice, D.cells, D.one, sets, resT, D.flat, D.flat0, D.simple, Nat.reduceBNe, Nat.reduceLT, reduceIte, Nat.reduceEqDiff, Nat.reduceAdd, Nat.reduceMul, Nat.reduceSub, Nat.reduceLeDiff, Int.reduceToNat, Int.reduceLT, Int.reduceLE, Int.reduceEq, Int.reduceNeg, Int.reduceSub, Int.reduceAdd, Int.reduceMul, stG_own]
          refine ⟨fun h => absurd h (by omega), fun _ => ?_⟩
          refine callF_of co ?_
          (refine ev ?_; try with_reducible exact trivial)
          refine callF_of c1 ?_
          (refine ev ?_; try with_reducible exact trivial)
          refine callF_of c2 ?_
          (refine ev ?_; try with_reducible exact trivial)
          refine callF_of c3 ?_
          (refine ev ?_; try with_reducible exact trivial)
          refine callF_of c4 ?_
          (refine ev ?_; try with_reducible exact trivial)
        · rw [if_neg hf] at co
          simp only [hnn, Nat.add_sub_cancel, evX, evY, evZ, forall_const, implies_true, initE, stepF, D.clean, mvF, moF, tkF, shF, ariF, ciF, catF, scF, ebF, eqF, eqOk, eqPr, enF, notF, ngF, cvF, csF, csbF, lenF, lenSF, ixF, iaF, PX.slot, iaAF, faF, ldF, D.mem, stF, bxF, mkSF, boundF, fldF, ixAF, mmF2, D.plain, D.isPure, optAll, D.dull, callVF, splice, D.cells, D.one, sets, resT, D.flat, D.flat0, D.simple, Nat.reduceBNe, Nat.reduceLT, reduceIte, Nat.reduceEqDiff, Nat.reduceAdd, Nat.reduceMul, Nat.reduceSub, Nat.reduceLeDiff, Int.reduceToNat, Int.reduceLT, Int.reduceLE, Int.reduceEq, Int.reduceNeg, Int.reduceSub, Int.reduceAdd, Int.reduceMul, stG_own]
          refine ⟨fun h => absurd h (by omega), fun _ => ?_⟩
          refine callF_of co ?_
          (refine ev ?_; try with_reducible exact trivial)
          exact ⟨fun _ => ⟨by omega, fun h => absurd (by omega) h⟩, fun h => absurd hf h⟩
  · refine callF_of ck ?_
    (refine ev ?_; try with_reducible exact trivial)
end Go.Proofs
