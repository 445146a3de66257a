/-
  MATRIX: MatrixProducts. Own work.
-/
import Derived.Test.YtglbjagibldkgaaGreatDoorPj
import Derived.Test.YtglbjagibldkgaaGreatDoorSh
set_option linter.unusedVariables false
set_option linter.unusedSimpArgs false
namespace Go.Proofs
open Go Go.Pi Go.RowKit Go.Shelf Go.Ar Go.Mx

theorem gl19 {g : Grd} {t : Nat} {N : EP} {E : Env} : ldC true 19 g.D t N E = N (st1 E t (.agg g.D)) := by
  have h1 := g19 g
  have h2 := gone g
  have h3 : g.D.take 19 = g.D := by rw [← h1, List.take_length]
  simp [ldC, ofCells, h1, h3]
theorem szA_of {a b n m : Nat} {F : Mtx} {x : Nat → Rat} (hF : ∀ i, i < n → ∀ j, j < m → NB a a (F i j)) (hx : ∀ j, j < m → NB b b (x j)) (h : (a + b) + m * (a + b + 1) ≤ 198) : SzA n m F x ∧ Rt n (fun i => dotM m (F i) x) := by
  have key : ∀ i, i < n → ∀ k, k ≤ m → rd (dotM k (F i) x) ≤ 199 := fun i hi k hk => by
    have h1 := rd_nb (NB.sum (n := k) (f := fun j => F i j * x j) (a := a + b) (b := a + b) fun t ht => (hF i hi t (by omega)).mul (hx t (by omega)))
    have h2 : k * (a + b + 1) ≤ m * (a + b + 1) := Nat.mul_le_mul_right _ hk
    have h3 : k * (a + b) ≤ k * (a + b + 1) := Nat.mul_le_mul_left _ (by omega)
    have h4 : rd (sm k fun j => F i j * x j) = rd (dotM k (F i) x) := rfl
    omega
  refine ⟨⟨fun i hi j hj => ?_, fun i hi k hk => by have := key i hi k hk; omega⟩, fun i hi => by have := key i hi m (Nat.le_refl _); show rd (dotM m (F i) x) ≤ 200; omega⟩
  have h1 := rd_nb (hF i hi j hj)
  have h2 := rd_nb (hx j hj)
  have : 1 * (a + b + 1) ≤ m * (a + b + 1) := Nat.mul_le_mul_right _ (by omega)
  omega
theorem Grd.nb (g : Grd) : ∀ i, i < g.n → ∀ j, j < g.m → NB 2 2 (g.F i j) := fun i hi j hj => (g.rb i hi).nb hj
end Go.Proofs

/-
  MATRIX: MatrixDeterminants. Own work.
-/
namespace Go.Proofs
open Go Go.Pi Go.RowKit Go.Shelf Go.Ar Go.Mx

theorem Grd.half (g : Grd) (i j : Nat) : ∃ u : Int, u.natAbs ≤ 38 ∧ g.F i j * 2 = (u : Rat) := by
  have h := tmod20 (g.e (4 * i + j))
  unfold Grd.F Grd.d
  generalize (g.e (4 * i + j)).tmod 20 = z at *
  cases g.h
  · refine ⟨2 * z, by omega, ?_⟩
    show mkRat z 1 * 2 = _
    rw [mkRat_d1, Rat.intCast_mul]
    grind
  · refine ⟨z, by omega, ?_⟩
    show mkRat z 2 * 2 = _
    rw [Rat.mkRat_eq_div]
    grind
theorem Grd.rbT (g : Grd) (n m : Nat) : RBs 2 n m (trM g.F) := fun i _ => ⟨2, by decide, by decide, fun k _ => by
  obtain ⟨u, h1, h2⟩ := g.half k i
  exact ⟨u, by omega, h2⟩⟩
theorem sum4 {k : Nat} {f : Nat → Rat} (h : ∀ t, t < k → ∃ u : Int, u.natAbs ≤ 1444 ∧ f t * 4 = (u : Rat)) : ∃ u : Int, u.natAbs ≤ k * 1444 ∧ sm k f * 4 = (u : Rat) := by
  induction k with
  | zero => exact ⟨0, by decide, by simp only [sm]; decide +kernel⟩
  | succ k ih =>
    obtain ⟨u, h1, h2⟩ := ih fun t ht => h t (by omega)
    obtain ⟨v, h3, h4⟩ := h k (Nat.lt_succ_self k)
    refine ⟨u + v, by have := Int.natAbs_add_le u v; omega, ?_⟩
    simp only [sm]
    rw [Rat.intCast_add, ← h2, ← h4]; grind
theorem Grd.rbP (g h : Grd) (n m k : Nat) (hm : m ≤ 4) : RBs 4 n k (prodM m g.F h.F) := fun i _ => ⟨4, by decide, by decide, fun j _ => by
  obtain ⟨u, h1, h2⟩ := sum4 (k := m) (f := fun t => g.F i t * h.F t j) fun t _ => by
    obtain ⟨u, a1, a2⟩ := g.half i t
    obtain ⟨v, b1, b2⟩ := h.half t j
    refine ⟨u * v, ?_, ?_⟩
    · rw [Int.natAbs_mul]
      exact Nat.le_trans (Nat.mul_le_mul a1 b1) (by decide)
    · rw [Rat.intCast_mul, ← a2, ← b2]; grind
  have : m * 1444 ≤ 4 * 1444 := Nat.mul_le_mul_right _ hm
  exact ⟨u, by omega, h2⟩⟩
/-- the determinant's contract at sizes -/
theorem Tryz.mdetK {k n : Nat} {F : Mtx} (hn : n ≤ 4) (h : RBs k n n F) (hk : (k + 1) * 2 ^ n ≤ 190) : Con Tryz.prog Tryz.L 18 [matD n n F] (.tup [.str (rt (detM n F)), .int .i64 0]) ∧ rd (detM n F) ≤ 200 := by
  have hp : 1 ≤ 2 ^ n := Nat.one_le_two_pow
  have hk2 : (k + 1) * 1 ≤ (k + 1) * 2 ^ n := Nat.mul_le_mul_left _ hp
  have hf := rd_nb (nb_fac h (w := n) (Nat.le_refl _))
  rw [Nat.max_self] at hf
  refine ⟨Tryz.mdet n F (by omega) (rts_of h (by omega)) (bnd_of h (Nat.le_refl _) (by omega)) (by omega), ?_⟩
  unfold detM
  split
  · decide +kernel
  · omega
/-- a description made square -/
def Grd.sq (g : Grd) : Grd := { g with c := g.r % 5 }
def Grd.sqAs (h : Grd) (g : Grd) : Grd := { h with r := g.r % 5, c := g.r % 5 }
theorem Grd.sq_ok {g : Grd} (h : g.ok) : g.sq.ok := ⟨h.1, by show g.r % 5 < 256; omega, h.2.2⟩
theorem Grd.sqAs_ok {g h : Grd} (hh : h.ok) : (h.sqAs g).ok := ⟨by show g.r % 5 < 256; omega, by show g.r % 5 < 256; omega, hh.2.2⟩
theorem Grd.sq_n (g : Grd) : g.sq.n = g.n := rfl
theorem Grd.sq_m (g : Grd) : g.sq.m = g.n := by unfold Grd.m Grd.n Grd.sq; simp only; split <;> omega
theorem Grd.sqAs_n (h g : Grd) : (h.sqAs g).n = g.n := by unfold Grd.n Grd.sqAs; simp only; omega
theorem Grd.sqAs_m (h g : Grd) : (h.sqAs g).m = g.n := by unfold Grd.m Grd.n Grd.sqAs; simp only; split <;> omega
set_option maxRecDepth 100000 in
set_option maxHeartbeats 4000000 in
theorem Tryz.ldets (g h : Grd) (hg : g.ok) (hh : h.ok) : Con Tryz.prog Tryz.L 7 [.agg g.D, .agg h.D] (.bool true) := by
  have hgn := g.n4
  have er : (g.r : Int).tmod 5 = ((g.r % 5 : Nat) : Int) := by rw [Int.tmod_eq_emod_of_nonneg (by omega)]; omega
  refine rule7 Tryz.hL rfl rfl rfl ?_
  (simp only [pc7, rs7, oU, oC]; refine ev ?_; try with_reducible exact trivial)
  refine ⟨g19 g, gone g, g19 h, gone h, ?_⟩
  refine callF_of Tryz.mknown ?_
  simp only [evX, evY, evZ, forall_const, implies_true, initE, stepF, D.clean, mvF, moF, tkF, shF, ariF, ciF, catF, scF, ebF, eqF, eqOk, eqPr, enF, notF, ngF, cvF, csF, csbF, lenF, lenSF, ixF, iaF, PX.slot, iaAF, faF, ldF, D.mem, stF, bxF, mkSF, boundF, fldF, ixAF, mmF2, D.plain, D.isPure, optAll, D.dull, callVF, splice, D.cells, D.one, sets, resT, D.flat, D.flat0, D.simple, Nat.reduceBNe, Nat.reduceLT, reduceIte, Nat.reduceEqDiff, Nat.reduceAdd, Nat.reduceMul, Nat.reduceSub, Nat.reduceLeDiff, Int.reduceToNat, Int.reduceLT, Int.reduceLE, Int.reduceEq, Int.reduceNeg, Int.reduceSub, Int.reduceAdd, Int.reduceMul, stG_own, gl0]
  rw [er]
  have e1 : List.take 1 g.D ++ [D.int .u8 ((g.r % 5 : Nat) : Int)] ++ List.drop 2 g.D = g.sq.D := rfl
  have e2 : (D.int .u8 ((g.r % 5 : Nat) : Int) :: D.int .u8 ((g.r % 5 : Nat) : Int) :: List.drop 1 (List.drop 1 h.D)) = (h.sqAs g).D := rfl
  rw [e1, e2]
  refine ⟨by rw [g19]; decide, by rw [g19]; decide, by rw [List.length_drop, g19]; decide, ?_⟩
  rw [gl19]
  simp only [evX, evY, evZ, forall_const, implies_true, initE, stepF, D.clean, mvF, moF, tkF, shF, ariF, ciF, catF, scF, ebF, eqF, eqOk, eqPr, enF, notF, ngF, cvF, csF, csbF, lenF, lenSF, ixF, iaF, PX.slot, iaAF, faF, ldF, D.mem, stF, bxF, mkSF, boundF, fldF, ixAF, mmF2, D.plain, D.isPure, optAll, D.dull, callVF, splice, D.cells, D.one, sets, resT, D.flat, D.flat0, D.simple, Nat.reduceBNe, Nat.reduceLT, reduceIte, Nat.reduceEqDiff, Nat.reduceAdd, Nat.reduceMul, Nat.reduceSub, Nat.reduceLeDiff, Int.reduceToNat, Int.reduceLT, Int.reduceLE, Int.reduceEq, Int.reduceNeg, Int.reduceSub, Int.reduceAdd, Int.reduceMul, stG_own, gl19]
  refine callF_of (Tryz.mmake g.sq (Grd.sq_ok hg)) ?_
  simp only [evX, evY, evZ, forall_const, implies_true, initE, stepF, D.clean, mvF, moF, tkF, shF, ariF, ciF, catF, scF, ebF, eqF, eqOk, eqPr, enF, notF, ngF, cvF, csF, csbF, lenF, lenSF, ixF, iaF, PX.slot, iaAF, faF, ldF, D.mem, stF, bxF, mkSF, boundF, fldF, ixAF, mmF2, D.plain, D.isPure, optAll, D.dull, callVF, splice, D.cells, D.one, sets, resT, D.flat, D.flat0, D.simple, Nat.reduceBNe, Nat.reduceLT, reduceIte, Nat.reduceEqDiff, Nat.reduceAdd, Nat.reduceMul, Nat.reduceSub, Nat.reduceLeDiff, Int.reduceToNat, Int.reduceLT, Int.reduceLE, Int.reduceEq, Int.reduceNeg, Int.reduceSub, Int.reduceAdd, Int.reduceMul, stG_own, gl19]
  refine callF_of (Tryz.mmake (h.sqAs g) (Grd.sqAs_ok hh)) ?_
  rw [g.sq_m, g.sq_n, h.sqAs_m g, h.sqAs_n g]
  (refine ev ?_; try with_reducible exact trivial)
  have r1 : RBs 2 g.n g.n g.sq.F := by have := g.sq.rb; rwa [g.sq_n, g.sq_m] at this
  have r2 : RBs 2 g.n g.n (h.sqAs g).F := by have := (h.sqAs g).rb; rwa [h.sqAs_n g, h.sqAs_m g] at this
  have r3 := g.sq.rbP (h.sqAs g) g.n g.n g.n hgn
  have r4 := g.sq.rbT g.n g.n
  have p2 : (2 + 1) * 2 ^ g.n ≤ (2 + 1) * 16 := Nat.mul_le_mul_left _ (Nat.pow_le_pow_right (by decide) hgn)
  have p4 : (4 + 1) * 2 ^ g.n ≤ (4 + 1) * 16 := Nat.mul_le_mul_left _ (Nat.pow_le_pow_right (by decide) hgn)
  refine callF_of (Tryz.mtransposeF g.n g.n g.sq.F (by omega) (by omega) id (rts_of r1 (by decide))) ?_
  (refine ev ?_; try with_reducible exact trivial)
  refine callF_of (Tryz.mmul g.n g.n g.n g.sq.F (h.sqAs g).F (by omega) (by omega) (by omega) id id (rts_of r1 (by decide)) (rts_of r2 (by decide)) (fun i hi => (szA_of (a := 2) (b := 2) (fun c hc j hj => (r2 j hj).nb hc) (fun j hj => (r1 i hi).nb hj) (by have : g.n * (2 + 2 + 1) ≤ 4 * 5 := Nat.mul_le_mul_right _ hgn; omega)).1) (rts_of r3 (by decide))) ?_
  (refine ev ?_; try with_reducible exact trivial)
  have d1 := Tryz.mdetK hgn r1 (by omega)
  have d2 := Tryz.mdetK hgn r2 (by omega)
  have d3 := Tryz.mdetK hgn r3 (by omega)
  have d4 := Tryz.mdetK hgn r4 (by omega)
  refine callF_of d1.1 ?_
  (refine ev ?_; try with_reducible exact trivial)
  refine callF_of d2.1 ?_
  (refine ev ?_; try with_reducible exact trivial)
  refine callF_of d3.1 ?_
  (refine ev ?_; try with_reducible exact trivial)
  refine callF_of d4.1 ?_
  (refine ev ?_; try with_reducible exact trivial)
  rw [det_prod hgn, det_tr hgn]
  refine callF_of (Tryz.qmul _ _ (by omega) (by omega)) ?_
  (refine ev ?_; try with_reducible exact trivial)
end Go.Proofs

/-
  MATRIX: texts of numbers; MatrixApplies. Own work.
-/
namespace Go.Proofs
open Go Go.Pi Go.RowKit Go.Shelf Go.Ar Go.Mx

theorem len_rd {k : Nat} {q : Rat} (hk : 1 ≤ k) (h : (rt q).length ≤ k) : rd q ≤ k := by
  refine Nat.max_le.2 ?_
  have h1 := tz_len q.num
  by_cases hd : q.den = 1
  · rw [rt_int hd] at h
    rw [hd, dd_one]
    exact ⟨by unfold dl; omega, by simpa using hk⟩
  · rw [rt_frac hd, List.length_append, List.length_cons] at h
    exact ⟨by unfold dl; omega, by omega⟩
theorem nb_rd {k : Nat} {q : Rat} (h : rd q ≤ k) : NB k k q := by
  have h1 : q.num.natAbs < 10 ^ (dd q.num.natAbs).length := dd_lt _
  have h2 : q.den < 10 ^ (dd q.den).length := dd_lt _
  have h3 : (dd q.num.natAbs).length ≤ k := Nat.le_trans (Nat.le_max_left _ _) h
  have h4 : (dd q.den).length ≤ k := Nat.le_trans (Nat.le_max_right _ _) h
  refine ⟨q.num, q.den, q.den_pos, Nat.le_trans (Nat.le_of_lt h2) (pow_mono h4), Nat.le_trans (Nat.le_of_lt h1) (pow_mono h3), ?_⟩
  have h5 : (q.num : Rat) / (q.den : Rat) = q := by rw [← Rat.mkRat_eq_div, Rat.mkRat_self]
  have h6 : (q.den : Rat) ≠ 0 := fun e => q.den_nz (by exact_mod_cast e)
  generalize (q.num : Rat) = a at *
  generalize (q.den : Rat) = b at *
  rw [← h5]; grind
theorem Tryz.xshorter (l : List (List UInt8)) (hl : l.length ≤ 1000) : Con Tryz.prog Tryz.L 22 [.sl l.length (txs l)] (.bool (dB (∀ s ∈ l, s.length ≤ 20))) := by
  refine rule22 Tryz.hL rfl rfl rfl ?_
  (simp only [pc22, rs22, oU, oC]; refine ev ?_; try with_reducible exact trivial)
  refine loopF_of (fun E => ∃ k : Nat, k ≤ l.length ∧ (∀ j, j < k → (l.getD j []).length ≤ 20) ∧ E = [(0, .sl l.length (txs l)), (3, .int .i64 k)])
    (fun E => match lk E 3 with | .int _ i => l.length - i.toNat | _ => 0) ⟨0, Nat.zero_le _, fun _ h => absurd h (Nat.not_lt_zero _), rfl⟩ ?_
  rintro _ ⟨k, hk, hz, rfl⟩
  simp only [evX, evY, evZ, forall_const, implies_true, initE, stepF, D.clean, mvF, moF, tkF, shF, ariF, ciF, catF, scF, ebF, eqF, eqOk, eqPr, enF, notF, ngF, cvF, csF, csbF, lenF, lenSF, ixF, iaF, PX.slot, iaAF, faF, ldF, D.mem, stF, bxF, mkSF, boundF, fldF, ixAF, mmF2, D.plain, D.isPure, optAll, D.dull, callVF, splice, D.cells, D.one, sets, resT, D.flat, D.flat0, D.simple, Nat.reduceBNe, Nat.reduceLT, reduceIte, Nat.reduceEqDiff, Nat.reduceAdd, Nat.reduceMul, Nat.reduceSub, Nat.reduceLeDiff, Int.reduceToNat, Int.reduceLT, Int.reduceLE, Int.reduceEq, Int.reduceNeg, Int.reduceSub, Int.reduceAdd, Int.reduceMul, stG_own, ldC_txs]
  refine ⟨fun h3 => ⟨⟨by omega, by omega, by rw [List.length_map]; omega⟩, by omega, fun h4 => ?_, fun h4 => ?_⟩, fun h3 => ?_⟩
  · exact (dB_not.2 fun h => by have := h _ (getD_mem (show k < l.length by omega)); omega).symm
  · refine ⟨by omega, ⟨k + 1, by omega, fun j hj => ?_, by simp⟩, by omega⟩
    by_cases e : j = k
    · rw [e]; omega
    · exact hz j (by omega)
  · refine (dB_iff.2 fun s hs => ?_).symm
    obtain ⟨j, hj, rfl⟩ := List.getElem_of_mem hs
    have := hz j (by omega)
    rwa [List.getD_eq_getElem?_getD, List.getElem?_eq_getElem hj] at this
theorem Tryz.xnumbers (l : List (List UInt8)) (hl : l.length ≤ 1000) (hs : ∀ s ∈ l, s.length ≤ 1000) : Con Tryz.prog Tryz.L 24 [.sl l.length (txs l)] (.bool (dB (∀ s ∈ l, okR s))) := by
  refine rule24 Tryz.hL rfl rfl rfl ?_
  (simp only [pc24, rs24, oU, oC]; refine ev ?_; try with_reducible exact trivial)
  refine loopF_of (fun E => ∃ k : Nat, k ≤ l.length ∧ (∀ j, j < k → okR (l.getD j [])) ∧ E = [(0, .sl l.length (txs l)), (3, .int .i64 k)])
    (fun E => match lk E 3 with | .int _ i => l.length - i.toNat | _ => 0) ⟨0, Nat.zero_le _, fun _ h => absurd h (Nat.not_lt_zero _), rfl⟩ ?_
  rintro _ ⟨k, hk, hz, rfl⟩
  simp only [evX, evY, evZ, forall_const, implies_true, initE, stepF, D.clean, mvF, moF, tkF, shF, ariF, ciF, catF, scF, ebF, eqF, eqOk, eqPr, enF, notF, ngF, cvF, csF, csbF, lenF, lenSF, ixF, iaF, PX.slot, iaAF, faF, ldF, D.mem, stF, bxF, mkSF, boundF, fldF, ixAF, mmF2, D.plain, D.isPure, optAll, D.dull, callVF, splice, D.cells, D.one, sets, resT, D.flat, D.flat0, D.simple, Nat.reduceBNe, Nat.reduceLT, reduceIte, Nat.reduceEqDiff, Nat.reduceAdd, Nat.reduceMul, Nat.reduceSub, Nat.reduceLeDiff, Int.reduceToNat, Int.reduceLT, Int.reduceLE, Int.reduceEq, Int.reduceNeg, Int.reduceSub, Int.reduceAdd, Int.reduceMul, stG_own, ldC_txs]
  refine ⟨fun h3 => ⟨⟨by omega, by omega, by rw [List.length_map]; omega⟩, by omega, ?_⟩, fun h3 => ?_⟩
  · have hk2 : k < l.length := by omega
    refine callF_of (Tryz.qright (l.getD k []) (by have := hs _ (getD_mem hk2); omega)) ?_
    (refine ev ?_; try with_reducible exact trivial)
    refine ⟨fun h4 => ?_, fun h4 => ?_⟩
    · exact (dB_not.2 fun h => h4 (h _ (getD_mem hk2))).symm
    · have h4 : okR (l.getD k []) := Classical.not_not.1 h4
      refine ⟨by omega, ⟨k + 1, by omega, fun j hj => ?_, by simp⟩, by omega⟩
      by_cases e : j = k
      · rw [e]; exact h4
      · exact hz j (by omega)
  · refine (dB_iff.2 fun s hs => ?_).symm
    obtain ⟨j, hj, rfl⟩ := List.getElem_of_mem hs
    have := hz j (by omega)
    rwa [List.getD_eq_getElem?_getD, List.getElem?_eq_getElem hj] at this
theorem vals_nb {l : List (List UInt8)} (h : ∀ s ∈ l, okR s) (h2 : ∀ s ∈ l, s.length ≤ 20) : ∀ j, j < l.length → NB 20 20 (vals l j) := fun j hj => by
  have h1 := h _ (getD_mem hj)
  have h3 := h2 _ (getD_mem hj)
  rw [val_rt h1] at h3
  exact nb_rd (len_rd (by decide) h3)
set_option maxRecDepth 100000 in
set_option maxHeartbeats 4000000 in
theorem Tryz.lapplies (g : Grd) (l : List (List UInt8)) (hg : g.ok) (hl1 : l.length ≤ 1048576) (hs1 : ∀ s ∈ l, s.length ≤ 1048576) : Con Tryz.prog Tryz.L 5 [.agg g.D, .sl l.length (txs l)] (.bool true) := by
  have hgn := g.n4; have hgm := g.m4
  refine rule5 Tryz.hL rfl rfl rfl ?_
  (simp only [pc5, rs5, oU, oC]; refine ev ?_; try with_reducible exact trivial)
  refine ⟨g19 g, gone g, ?_⟩
  refine callF_of Tryz.mknown ?_
  simp only [evX, evY, evZ, forall_const, implies_true, initE, stepF, D.clean, mvF, moF, tkF, shF, ariF, ciF, catF, scF, ebF, eqF, eqOk, eqPr, enF, notF, ngF, cvF, csF, csbF, lenF, lenSF, ixF, iaF, PX.slot, iaAF, faF, ldF, D.mem, stF, bxF, mkSF, boundF, fldF, ixAF, mmF2, D.plain, D.isPure, optAll, D.dull, callVF, splice, D.cells, D.one, sets, resT, D.flat, D.flat0, D.simple, Nat.reduceBNe, Nat.reduceLT, reduceIte, Nat.reduceEqDiff, Nat.reduceAdd, Nat.reduceMul, Nat.reduceSub, Nat.reduceLeDiff, Int.reduceToNat, Int.reduceLT, Int.reduceLE, Int.reduceEq, Int.reduceNeg, Int.reduceSub, Int.reduceAdd, Int.reduceMul, stG_own, gl19]
  refine ⟨fun h => ?_, fun h => ?_⟩
  rotate_left
  · refine callF_of Tryz.mknown ?_
    (refine ev ?_; try with_reducible exact trivial)
  · have hl6 : l.length ≤ 6 := by omega
    refine callF_of (Tryz.xshorter l (by omega)) ?_
    simp only [evX, evY, evZ, forall_const, implies_true, initE, stepF, D.clean, mvF, moF, tkF, shF, ariF, ciF, catF, scF, ebF, eqF, eqOk, eqPr, enF, notF, ngF, cvF, csF, csbF, lenF, lenSF, ixF, iaF, PX.slot, iaAF, faF, ldF, D.mem, stF, bxF, mkSF, boundF, fldF, ixAF, mmF2, D.plain, D.isPure, optAll, D.dull, callVF, splice, D.cells, D.one, sets, resT, D.flat, D.flat0, D.simple, Nat.reduceBNe, Nat.reduceLT, reduceIte, Nat.reduceEqDiff, Nat.reduceAdd, Nat.reduceMul, Nat.reduceSub, Nat.reduceLeDiff, Int.reduceToNat, Int.reduceLT, Int.reduceLE, Int.reduceEq, Int.reduceNeg, Int.reduceSub, Int.reduceAdd, Int.reduceMul, stG_own, gl19]
    refine ⟨fun h2 => ?_, fun h2 => ?_⟩
    · refine callF_of Tryz.mknown ?_
      (refine ev ?_; try with_reducible exact trivial)
    · have h20 : ∀ s ∈ l, s.length ≤ 20 := Classical.not_not.1 h2
      have hs : ∀ s ∈ l, s.length ≤ 1000 := fun s h => by have := h20 s h; omega
      refine callF_of (Tryz.mmake g hg) ?_
      (refine ev ?_; try with_reducible exact trivial)
      by_cases hok : ∀ s ∈ l, okR s
      · by_cases hlm : l.length = g.m
        · have e : D.sl l.length (txs l) = rowD g.m (vals l) := by rw [txs_strs hok, hlm]
          have hN := Tryz.xnumbers l (by omega) hs
          rw [dB_iff.2 hok] at hN
          have hz := szA_of (a := 2) (b := 20) g.nb (fun j hj => vals_nb hok h20 j (by omega)) (by have : g.m * (2 + 20 + 1) ≤ 4 * 23 := Nat.mul_le_mul_right _ hgm; omega)
          have hx : Rt g.m (vals l) := by rw [← hlm]; exact vals_rt hok
          have hap := Tryz.mapplyF g.n g.m g.F (vals l) (by omega) (by omega) g.nm g.rts hx hz.1 hz.2
          rw [← e] at hap
          refine callF_of hap ?_
          (refine ev ?_; try with_reducible exact trivial)
          refine callF_of hN ?_
          (refine ev ?_; try with_reducible exact trivial)
          refine callF_of (Tryz.xcolumns g.n g.m g.F (by omega) g.nm) ?_
          (refine ev ?_; try with_reducible exact trivial)
          refine ⟨fun h => h (by omega), fun _ => ?_⟩
          refine loopF_of (fun E => ∃ (k : Nat) (b : Bool), k ≤ g.n ∧ E = [(1, .sl l.length (txs l)), (5, .own b 49 g.n (rowsD g.n g.m g.F)), (6, rowD g.n fun i => dotM g.m (g.F i) (vals l)), (7, .int .i64 0), (8, .own true 42 k (strs k fun i => dotM g.m (g.F i) (vals l))), (9, .int .i64 k)])
            (fun E => match lk E 9 with | .int _ i => g.n - i.toNat | _ => 0) ⟨0, _, Nat.zero_le _, rfl⟩ ?_
          rintro _ ⟨k, b, hk, rfl⟩
          cases b
          all_goals
            (refine ev ?_; try with_reducible exact trivial)
            refine ⟨fun h4 => ?_, fun h4 => ?_⟩
            · refine ⟨⟨by omega, by omega, by rw [rowsD_len]; omega⟩, ?_⟩
              rw [ldC_rowsD']
              refine ⟨by omega, ?_⟩
              (refine ev ?_; try with_reducible exact trivial)
              have hd := Tryz.xdot g.m (g.F k) (vals l) (by omega) (hz.1.1 k (by omega)) (hz.1.2 k (by omega))
              rw [← e] at hd
              refine callF_of hd ?_
              (refine ev ?_; try with_reducible exact trivial)
              exact ⟨by omega, by omega, by omega, ⟨k + 1, _, by omega, rfl, by rw [strs_succ], by simp⟩, by omega⟩
            · obtain rfl : k = g.n := by omega
              refine callF_of (Tryz.xalike g.n (fun i => dotM g.m (g.F i) (vals l)) (by omega)) ?_
              (refine ev ?_; try with_reducible exact trivial)
        · refine callF_of (Tryz.mapply5 g.n g.m g.F l (by omega) (by omega) g.nm g.rts (by omega) hs hok hlm) ?_
          (refine ev ?_; try with_reducible exact trivial)
          have hN := Tryz.xnumbers l (by omega) hs
          rw [dB_iff.2 hok] at hN
          refine callF_of hN ?_
          (refine ev ?_; try with_reducible exact trivial)
          refine callF_of (Tryz.xcolumns g.n g.m g.F (by omega) g.nm) ?_
          (refine ev ?_; try with_reducible exact trivial)
          exact ⟨fun _ => dB_iff.2 rfl, fun h => absurd (fun h3 : (l.length : Int) = g.m => hlm (by omega)) h⟩
      · refine callF_of (Tryz.mapply2 g.n g.m g.F l (by omega) (by omega) g.nm g.rts (by omega) hs hok) ?_
        (refine ev ?_; try with_reducible exact trivial)
        have hN := Tryz.xnumbers l (by omega) hs
        rw [dB_not.2 hok] at hN
        refine callF_of hN ?_
        (refine ev ?_; try with_reducible exact trivial)
        exact dB_iff.2 rfl
end Go.Proofs

/-
  MATRIX: matrices of texts; MatrixChecks. Own work.
-/
namespace Go.Proofs
open Go Go.Pi Go.RowKit Go.Shelf Go.Ar Go.Mx

abbrev TT := List (List (List UInt8))
def mxs (l : TT) : List D := l.map fun r => .sl r.length (txs r)
abbrev mtD (l : TT) : D := .sl l.length (mxs l)
def rwT (l : TT) (k : Nat) : List (List UInt8) := l.getD k []
theorem mxs_len (l : TT) : (mxs l).length = l.length := List.length_map ..
theorem mxs_lst (l : TT) : mxs l = lst l.length fun k => .sl (rwT l k).length (txs (rwT l k)) := by
  unfold mxs rwT
  apply List.ext_getElem?
  intro i
  rw [List.getElem?_map]
  by_cases h : i < l.length
  · rw [lst_at _ h, List.getD_eq_getElem?_getD, List.getElem?_eq_getElem h]; rfl
  · rw [List.getElem?_eq_none (by omega), List.getElem?_eq_none (by rw [lst_len]; omega)]; rfl
theorem ldC_mxs {l : TT} {k t : Nat} {N : EP} {E : Env} : ldC false 1 (List.take 1 (List.drop k (mxs l))) t N E = (k < l.length ∧ N (st1 E t (.sl (rwT l k).length (txs (rwT l k))))) := by
  rw [mxs_lst]; exact ldC_lst fun _ => rfl
theorem ldC_mxs0 {l : TT} {t : Nat} {N : EP} {E : Env} : ldC false 1 (List.take 1 (mxs l)) t N E = (0 < l.length ∧ N (st1 E t (.sl (rwT l 0).length (txs (rwT l 0))))) := ldC_mxs (k := 0)
theorem rwT_mem {l : TT} {k : Nat} (h : k < l.length) : rwT l k ∈ l := by
  unfold rwT
  rw [List.getD_eq_getElem?_getD, List.getElem?_eq_getElem h]; exact List.getElem_mem h
theorem all_rw {l : TT} {p : List (List UInt8) → Prop} (h : ∀ k, k < l.length → p (rwT l k)) : ∀ r ∈ l, p r := fun r hr => by
  obtain ⟨j, hj, rfl⟩ := List.getElem_of_mem hr
  have := h j hj
  unfold rwT at this
  rwa [List.getD_eq_getElem?_getD, List.getElem?_eq_getElem hj] at this
def okN (l : TT) : Prop := ∀ r ∈ l, ∀ s ∈ r, okR s
def okW (l : TT) : Prop := ∀ r ∈ l, r.length ≤ 12
def okQ (l : TT) : Prop := ∀ r ∈ l, r.length = (rwT l 0).length
/-- the first error of a matrix -/
noncomputable def chkM (l : TT) : Int := @ite _ (okN l) (Classical.propDecidable _) (if 12 < l.length then 4 else @ite _ (okW l) (Classical.propDecidable _) (@ite _ (okQ l) (Classical.propDecidable _) 0 5) 4) 2
theorem chkM2 {l : TT} (h : ¬okN l) : chkM l = 2 := by unfold chkM; rw [if_neg h]
theorem chkM4 {l : TT} (h : okN l) (h2 : 12 < l.length) : chkM l = 4 := by unfold chkM; rw [if_pos h, if_pos h2]
theorem chkM4' {l : TT} (h : okN l) (h2 : ¬12 < l.length) (h3 : ¬okW l) : chkM l = 4 := by unfold chkM; rw [if_pos h, if_neg h2, if_neg h3]
theorem chkM5 {l : TT} (h : okN l) (h2 : ¬12 < l.length) (h3 : okW l) (h4 : ¬okQ l) : chkM l = 5 := by unfold chkM; rw [if_pos h, if_neg h2, if_pos h3, if_neg h4]
theorem chkM0 {l : TT} (h : okN l) (h2 : ¬12 < l.length) (h3 : okW l) (h4 : okQ l) : chkM l = 0 := by unfold chkM; rw [if_pos h, if_neg h2, if_pos h3, if_pos h4]
/-- few rows, short texts -/
def SzT (l : TT) : Prop := l.length ≤ 1000 ∧ ∀ r ∈ l, r.length ≤ 1000 ∧ ∀ s ∈ r, s.length ≤ 1000
set_option maxHeartbeats 4000000 in
theorem Tryz.mcheckS (l : TT) (hl : SzT l) : Con Tryz.prog Tryz.L 39 [mtD l] (.int .i64 (chkM l)) := by
  obtain ⟨hl1, hl2⟩ := hl
  refine rule39 Tryz.hL rfl rfl rfl ?_
  (simp only [pc39, rs39, oU, oC]; refine ev ?_; try with_reducible exact trivial)
  refine loopF_of (fun E => ∃ k : Nat, k ≤ l.length ∧ (∀ j, j < k → ∀ s ∈ rwT l j, okR s) ∧ E = [(0, mtD l), (10, mtD l), (11, .int .i64 l.length), (12, .int .i64 k)])
    (fun E => match lk E 12 with | .int _ i => l.length - i.toNat | _ => 0) ⟨0, Nat.zero_le _, fun _ h => absurd h (Nat.not_lt_zero _), rfl⟩ ?_
  rintro _ ⟨k, hk, hz, rfl⟩
  simp only [evX, evY, evZ, forall_const, implies_true, initE, stepF, D.clean, mvF, moF, tkF, shF, ariF, ciF, catF, scF, ebF, eqF, eqOk, eqPr, enF, notF, ngF, cvF, csF, csbF, lenF, lenSF, ixF, iaF, PX.slot, iaAF, faF, ldF, D.mem, stF, bxF, mkSF, boundF, fldF, ixAF, mmF2, D.plain, D.isPure, optAll, D.dull, callVF, splice, D.cells, D.one, sets, resT, D.flat, D.flat0, D.simple, Nat.reduceBNe, Nat.reduceLT, reduceIte, Nat.reduceEqDiff, Nat.reduceAdd, Nat.reduceMul, Nat.reduceSub, Nat.reduceLeDiff, Int.reduceToNat, Int.reduceLT, Int.reduceLE, Int.reduceEq, Int.reduceNeg, Int.reduceSub, Int.reduceAdd, Int.reduceMul, stG_own, ldC_mxs]
  have ml := mxs_len l
  refine ⟨fun h3 => ⟨⟨by omega, by omega, by omega⟩, by omega, ?_⟩, fun h3 => ?_⟩
  · have hk2 : k < l.length := by omega
    refine callF_of (Tryz.mnumbersS (rwT l k) (hl2 _ (rwT_mem hk2)).1 (hl2 _ (rwT_mem hk2)).2) ?_
    (refine ev ?_; try with_reducible exact trivial)
    refine ⟨fun h4 => ?_, fun h4 => ?_⟩
    · have h5 : ¬∀ s ∈ rwT l k, okR s := fun h => h4 (chk_t h)
      rw [chk_f h5, chkM2 fun h => h5 (h _ (rwT_mem hk2))]
    · have h5 : ∀ s ∈ rwT l k, okR s := chk_0.1 (Decidable.of_not_not h4)
      refine ⟨by omega, ⟨k + 1, by omega, fun j hj => ?_, by simp⟩, by omega⟩
      by_cases e : j = k
      · rw [e]; exact h5
      · exact hz j (by omega)
  · obtain rfl : k = l.length := by omega
    have hN : okN l := all_rw hz
    refine ⟨fun h4 => (chkM4 hN (by omega)).symm, fun h4 => ?_⟩
    have h12 : ¬12 < l.length := by omega
    refine loopF_of (fun E => ∃ k : Nat, k ≤ l.length ∧ (∀ j, j < k → (rwT l j).length ≤ 12) ∧ E = [(0, mtD l), (25, mtD l), (26, .int .i64 l.length), (27, .int .i64 k)])
      (fun E => match lk E 27 with | .int _ i => l.length - i.toNat | _ => 0) ⟨0, Nat.zero_le _, fun _ h => absurd h (Nat.not_lt_zero _), rfl⟩ ?_
    rintro _ ⟨k, hk, hw, rfl⟩
    simp only [evX, evY, evZ, forall_const, implies_true, initE, stepF, D.clean, mvF, moF, tkF, shF, ariF, ciF, catF, scF, ebF, eqF, eqOk, eqPr, enF, notF, ngF, cvF, csF, csbF, lenF, lenSF, ixF, iaF, PX.slot, iaAF, faF, ldF, D.mem, stF, bxF, mkSF, boundF, fldF, ixAF, mmF2, D.plain, D.isPure, optAll, D.dull, callVF, splice, D.cells, D.one, sets, resT, D.flat, D.flat0, D.simple, Nat.reduceBNe, Nat.reduceLT, reduceIte, Nat.reduceEqDiff, Nat.reduceAdd, Nat.reduceMul, Nat.reduceSub, Nat.reduceLeDiff, Int.reduceToNat, Int.reduceLT, Int.reduceLE, Int.reduceEq, Int.reduceNeg, Int.reduceSub, Int.reduceAdd, Int.reduceMul, stG_own, ldC_mxs]
    refine ⟨fun h5 => ⟨⟨by omega, by omega, by omega⟩, by omega, fun h6 => ?_, fun h6 => ?_⟩, fun h5 => ?_⟩
    · exact (chkM4' hN h12 fun h => by have := h _ (rwT_mem (show k < l.length by omega)); omega).symm
    · refine ⟨by omega, ⟨k + 1, by omega, fun j hj => ?_, by simp⟩, by omega⟩
      by_cases e : j = k
      · rw [e]; omega
      · exact hw j (by omega)
    · obtain rfl : k = l.length := by omega
      have hW : okW l := all_rw hw
      refine loopF_of (fun E => ∃ k : Nat, k ≤ l.length ∧ (∀ j, j < k → (rwT l j).length = (rwT l 0).length) ∧ E = [(0, mtD l), (35, mtD l), (36, .int .i64 l.length), (37, .int .i64 k)])
        (fun E => match lk E 37 with | .int _ i => l.length - i.toNat | _ => 0) ⟨0, Nat.zero_le _, fun _ h => absurd h (Nat.not_lt_zero _), rfl⟩ ?_
      rintro _ ⟨k, hk, hq, rfl⟩
      simp only [evX, evY, evZ, forall_const, implies_true, initE, stepF, D.clean, mvF, moF, tkF, shF, ariF, ciF, catF, scF, ebF, eqF, eqOk, eqPr, enF, notF, ngF, cvF, csF, csbF, lenF, lenSF, ixF, iaF, PX.slot, iaAF, faF, ldF, D.mem, stF, bxF, mkSF, boundF, fldF, ixAF, mmF2, D.plain, D.isPure, optAll, D.dull, callVF, splice, D.cells, D.one, sets, resT, D.flat, D.flat0, D.simple, Nat.reduceBNe, Nat.reduceLT, reduceIte, Nat.reduceEqDiff, Nat.reduceAdd, Nat.reduceMul, Nat.reduceSub, Nat.reduceLeDiff, Int.reduceToNat, Int.reduceLT, Int.reduceLE, Int.reduceEq, Int.reduceNeg, Int.reduceSub, Int.reduceAdd, Int.reduceMul, stG_own, ldC_mxs]
      refine ⟨fun h6 => ⟨⟨by omega, by omega, by omega⟩, by omega, ?_⟩, fun h6 => ?_⟩
      · refine ⟨⟨by omega, by omega⟩, ?_⟩
        rw [ldC_mxs0]
        refine ⟨by omega, ?_⟩
        (refine ev ?_; try with_reducible exact trivial)
        refine ⟨fun h7 => (chkM5 hN h12 hW fun h => h7 (by have := h _ (rwT_mem (show k < l.length by omega)); omega)).symm, fun h7 => ⟨by omega, ⟨k + 1, by omega, fun j hj => ?_, by simp⟩, by omega⟩⟩
        by_cases e : j = k
        · rw [e]; omega
        · exact hq j (by omega)
      · obtain rfl : k = l.length := by omega
        rw [chkM0 hN h12 hW (all_rw hq)]
theorem Tryz.xcheckS (l : TT) (hl : SzT l) : Con Tryz.prog Tryz.L 38 [mtD l] (.int .i64 (chkM l)) := by
  obtain ⟨hl1, hl2⟩ := hl
  refine rule38 Tryz.hL rfl rfl rfl ?_
  (simp only [pc38, rs38, oU, oC]; refine ev ?_; try with_reducible exact trivial)
  refine loopF_of (fun E => ∃ k : Nat, k ≤ l.length ∧ (∀ j, j < k → ∀ s ∈ rwT l j, okR s) ∧ E = [(0, mtD l), (3, .int .i64 k)])
    (fun E => match lk E 3 with | .int _ i => l.length - i.toNat | _ => 0) ⟨0, Nat.zero_le _, fun _ h => absurd h (Nat.not_lt_zero _), rfl⟩ ?_
  rintro _ ⟨k, hk, hz, rfl⟩
  simp only [evX, evY, evZ, forall_const, implies_true, initE, stepF, D.clean, mvF, moF, tkF, shF, ariF, ciF, catF, scF, ebF, eqF, eqOk, eqPr, enF, notF, ngF, cvF, csF, csbF, lenF, lenSF, ixF, iaF, PX.slot, iaAF, faF, ldF, D.mem, stF, bxF, mkSF, boundF, fldF, ixAF, mmF2, D.plain, D.isPure, optAll, D.dull, callVF, splice, D.cells, D.one, sets, resT, D.flat, D.flat0, D.simple, Nat.reduceBNe, Nat.reduceLT, reduceIte, Nat.reduceEqDiff, Nat.reduceAdd, Nat.reduceMul, Nat.reduceSub, Nat.reduceLeDiff, Int.reduceToNat, Int.reduceLT, Int.reduceLE, Int.reduceEq, Int.reduceNeg, Int.reduceSub, Int.reduceAdd, Int.reduceMul, stG_own, ldC_mxs]
  have ml := mxs_len l
  refine ⟨fun h3 => ⟨⟨by omega, by omega, by omega⟩, by omega, ?_⟩, fun h3 => ?_⟩
  · have hk2 : k < l.length := by omega
    refine callF_of (Tryz.xnumbers (rwT l k) (hl2 _ (rwT_mem hk2)).1 (hl2 _ (rwT_mem hk2)).2) ?_
    (refine ev ?_; try with_reducible exact trivial)
    refine ⟨fun h4 => ?_, fun h4 => ?_⟩
    · rw [chkM2 fun h => h4 (h _ (rwT_mem hk2))]
    · have h5 : ∀ s ∈ rwT l k, okR s := Classical.not_not.1 h4
      refine ⟨by omega, ⟨k + 1, by omega, fun j hj => ?_, by simp⟩, by omega⟩
      by_cases e : j = k
      · rw [e]; exact h5
      · exact hz j (by omega)
  · obtain rfl : k = l.length := by omega
    have hN : okN l := all_rw hz
    refine ⟨fun h4 => (chkM4 hN (by omega)).symm, fun h4 => ?_⟩
    have h12 : ¬12 < l.length := by omega
    refine loopF_of (fun E => ∃ k : Nat, k ≤ l.length ∧ (∀ j, j < k → (rwT l j).length ≤ 12) ∧ E = [(0, mtD l), (4, .int .i64 k)])
      (fun E => match lk E 4 with | .int _ i => l.length - i.toNat | _ => 0) ⟨0, Nat.zero_le _, fun _ h => absurd h (Nat.not_lt_zero _), rfl⟩ ?_
    rintro _ ⟨k, hk, hw, rfl⟩
    simp only [evX, evY, evZ, forall_const, implies_true, initE, stepF, D.clean, mvF, moF, tkF, shF, ariF, ciF, catF, scF, ebF, eqF, eqOk, eqPr, enF, notF, ngF, cvF, csF, csbF, lenF, lenSF, ixF, iaF, PX.slot, iaAF, faF, ldF, D.mem, stF, bxF, mkSF, boundF, fldF, ixAF, mmF2, D.plain, D.isPure, optAll, D.dull, callVF, splice, D.cells, D.one, sets, resT, D.flat, D.flat0, D.simple, Nat.reduceBNe, Nat.reduceLT, reduceIte, Nat.reduceEqDiff, Nat.reduceAdd, Nat.reduceMul, Nat.reduceSub, Nat.reduceLeDiff, Int.reduceToNat, Int.reduceLT, Int.reduceLE, Int.reduceEq, Int.reduceNeg, Int.reduceSub, Int.reduceAdd, Int.reduceMul, stG_own, ldC_mxs]
    refine ⟨fun h5 => ⟨⟨by omega, by omega, by omega⟩, by omega, fun h6 => ?_, fun h6 => ?_⟩, fun h5 => ?_⟩
    · exact (chkM4' hN h12 fun h => by have := h _ (rwT_mem (show k < l.length by omega)); omega).symm
    · refine ⟨by omega, ⟨k + 1, by omega, fun j hj => ?_, by simp⟩, by omega⟩
      by_cases e : j = k
      · rw [e]; omega
      · exact hw j (by omega)
    · obtain rfl : k = l.length := by omega
      have hW : okW l := all_rw hw
      refine loopF_of (fun E => ∃ k : Nat, k ≤ l.length ∧ (∀ j, j < k → (rwT l j).length = (rwT l 0).length) ∧ E = [(0, mtD l), (5, .int .i64 k)])
        (fun E => match lk E 5 with | .int _ i => l.length - i.toNat | _ => 0) ⟨0, Nat.zero_le _, fun _ h => absurd h (Nat.not_lt_zero _), rfl⟩ ?_
      rintro _ ⟨k, hk, hq, rfl⟩
      simp only [evX, evY, evZ, forall_const, implies_true, initE, stepF, D.clean, mvF, moF, tkF, shF, ariF, ciF, catF, scF, ebF, eqF, eqOk, eqPr, enF, notF, ngF, cvF, csF, csbF, lenF, lenSF, ixF, iaF, PX.slot, iaAF, faF, ldF, D.mem, stF, bxF, mkSF, boundF, fldF, ixAF, mmF2, D.plain, D.isPure, optAll, D.dull, callVF, splice, D.cells, D.one, sets, resT, D.flat, D.flat0, D.simple, Nat.reduceBNe, Nat.reduceLT, reduceIte, Nat.reduceEqDiff, Nat.reduceAdd, Nat.reduceMul, Nat.reduceSub, Nat.reduceLeDiff, Int.reduceToNat, Int.reduceLT, Int.reduceLE, Int.reduceEq, Int.reduceNeg, Int.reduceSub, Int.reduceAdd, Int.reduceMul, stG_own, ldC_mxs]
      refine ⟨fun h6 => ⟨⟨by omega, by omega, by omega⟩, by omega, ?_⟩, fun h6 => ?_⟩
      · refine ⟨⟨by omega, by omega⟩, ?_⟩
        rw [ldC_mxs0]
        refine ⟨by omega, ?_⟩
        (refine ev ?_; try with_reducible exact trivial)
        refine ⟨fun h7 => (chkM5 hN h12 hW fun h => h7 (by have := h _ (rwT_mem (show k < l.length by omega)); omega)).symm, fun h7 => ⟨by omega, ⟨k + 1, by omega, fun j hj => ?_, by simp⟩, by omega⟩⟩
        by_cases e : j = k
        · rw [e]; omega
        · exact hq j (by omega)
      · obtain rfl : k = l.length := by omega
        rw [chkM0 hN h12 hW (all_rw hq)]
/-! the first error -/
theorem Tryz.esquare (l : TT) (hl : SzT l) (he : chkM l ≠ 0) : Con Tryz.prog Tryz.L 43 [mtD l] (.int .i64 (chkM l)) := by
  refine rule43 Tryz.hL rfl rfl rfl ?_
  (simp only [pc43, rs43, oU, oC]; refine ev ?_; try with_reducible exact trivial)
  refine callF_of (Tryz.mcheckS l hl) ?_
  (refine ev ?_; try with_reducible exact trivial)
  exact fun h => absurd he h
theorem Tryz.etranspose (l : TT) (hl : SzT l) (he : chkM l ≠ 0) : Con Tryz.prog Tryz.L 31 [mtD l] (.tup [.sl 0 [], .int .i64 (chkM l)]) := by
  refine rule31 Tryz.hL rfl rfl rfl ?_
  (simp only [pc31, rs31, oU, oC]; refine ev ?_; try with_reducible exact trivial)
  refine callF_of (Tryz.mcheckS l hl) ?_
  (refine ev ?_; try with_reducible exact trivial)
  exact ⟨fun _ => rfl, fun h => absurd he h⟩
theorem Tryz.eapply (l : TT) (hl : SzT l) (he : chkM l ≠ 0) : Con Tryz.prog Tryz.L 23 [mtD l, .sl 0 []] (.tup [.sl 0 [], .int .i64 (chkM l)]) := by
  refine rule23 Tryz.hL rfl rfl rfl ?_
  (simp only [pc23, rs23, oU, oC]; refine ev ?_; try with_reducible exact trivial)
  refine callF_of (Tryz.mcheckS l hl) ?_
  (refine ev ?_; try with_reducible exact trivial)
  exact ⟨fun _ => rfl, fun h => absurd he h⟩
theorem Tryz.ereduce (l : TT) (hl : SzT l) (he : chkM l ≠ 0) : Con Tryz.prog Tryz.L 13 [mtD l] (.tup [.sl 0 [], .sl 0 [], .int .i64 (chkM l)]) := by
  refine rule13 Tryz.hL rfl rfl rfl ?_
  (simp only [pc13, rs13, oU, oC]; refine ev ?_; try with_reducible exact trivial)
  refine callF_of (Tryz.mcheckS l hl) ?_
  (refine ev ?_; try with_reducible exact trivial)
  exact ⟨fun _ => rfl, fun h => absurd he h⟩
theorem Tryz.erank (l : TT) (hl : SzT l) (he : chkM l ≠ 0) : Con Tryz.prog Tryz.L 17 [mtD l] (.tup [.int .i64 0, .int .i64 (chkM l)]) := by
  refine rule17 Tryz.hL rfl rfl rfl ?_
  (simp only [pc17, rs17, oU, oC]; refine ev ?_; try with_reducible exact trivial)
  refine callF_of (Tryz.mcheckS l hl) ?_
  (refine ev ?_; try with_reducible exact trivial)
  exact ⟨fun _ => rfl, fun h => absurd he h⟩
theorem Tryz.edet (l : TT) (hl : SzT l) (he : chkM l ≠ 0) : Con Tryz.prog Tryz.L 18 [mtD l] (.tup [.str [], .int .i64 (chkM l)]) := by
  refine rule18 Tryz.hL rfl rfl rfl ?_
  (simp only [pc18, rs18, oU, oC]; refine ev ?_; try with_reducible exact trivial)
  refine callF_of (Tryz.esquare l hl he) ?_
  (refine ev ?_; try with_reducible exact trivial)
  exact ⟨fun _ => rfl, fun h => absurd he h⟩
theorem Tryz.einv (l : TT) (hl : SzT l) (he : chkM l ≠ 0) : Con Tryz.prog Tryz.L 15 [mtD l] (.tup [.sl 0 [], .int .i64 (chkM l)]) := by
  refine rule15 Tryz.hL rfl rfl rfl ?_
  (simp only [pc15, rs15, oU, oC]; refine ev ?_; try with_reducible exact trivial)
  refine callF_of (Tryz.esquare l hl he) ?_
  (refine ev ?_; try with_reducible exact trivial)
  exact ⟨fun _ => rfl, fun h => absurd he h⟩
theorem Tryz.ekernel (l : TT) (hl : SzT l) (he : chkM l ≠ 0) : Con Tryz.prog Tryz.L 27 [mtD l] (.tup [.sl 0 [], .int .i64 (chkM l)]) := by
  refine rule27 Tryz.hL rfl rfl rfl ?_
  (simp only [pc27, rs27, oU, oC]; refine ev ?_; try with_reducible exact trivial)
  refine callF_of (Tryz.mcheckS l hl) ?_
  (refine ev ?_; try with_reducible exact trivial)
  exact ⟨fun _ => rfl, fun h => absurd he h⟩
theorem Tryz.esolve (l : TT) (hl : SzT l) (he : chkM l ≠ 0) : Con Tryz.prog Tryz.L 28 [mtD l, .sl 0 []] (.tup [.sl 0 [], .int .i64 0, .int .i64 (chkM l)]) := by
  refine rule28 Tryz.hL rfl rfl rfl ?_
  (simp only [pc28, rs28, oU, oC]; refine ev ?_; try with_reducible exact trivial)
  refine callF_of (Tryz.mcheckS l hl) ?_
  (refine ev ?_; try with_reducible exact trivial)
  exact ⟨fun _ => rfl, fun h => absurd he h⟩
theorem Tryz.emul (l : TT) (hl : SzT l) (he : chkM l ≠ 0) : Con Tryz.prog Tryz.L 32 [mtD l, mtD l] (.tup [.sl 0 [], .int .i64 (chkM l)]) := by
  refine rule32 Tryz.hL rfl rfl rfl ?_
  (simp only [pc32, rs32, oU, oC]; refine ev ?_; try with_reducible exact trivial)
  refine loopF_of (fun E => E = [(0, mtD l), (1, mtD l), (15, .own true 28 2 [mtD l, mtD l]), (16, .int .i64 2), (17, .int .i64 0)])
    (fun _ => 0) rfl ?_
  rintro _ rfl
  (refine ev ?_; try with_reducible exact trivial)
  refine ⟨by decide, ?_⟩
  refine callF_of (Tryz.mcheckS l hl) ?_
  (refine ev ?_; try with_reducible exact trivial)
  exact ⟨fun _ => rfl, fun h => absurd he h⟩
theorem Tryz.xshort40 (l : List (List UInt8)) (hl : l.length ≤ 1048576) : Con Tryz.prog Tryz.L 66 [.sl l.length (txs l)] (.bool (dB (∀ s ∈ l, s.length ≤ 40))) := by
  refine rule66 Tryz.hL rfl rfl rfl ?_
  (simp only [pc66, rs66, oU, oC]; refine ev ?_; try with_reducible exact trivial)
  refine loopF_of (fun E => ∃ k : Nat, k ≤ l.length ∧ (∀ j, j < k → (l.getD j []).length ≤ 40) ∧ E = [(0, .sl l.length (txs l)), (3, .int .i64 k)])
    (fun E => match lk E 3 with | .int _ i => l.length - i.toNat | _ => 0) ⟨0, Nat.zero_le _, fun _ h => absurd h (Nat.not_lt_zero _), rfl⟩ ?_
  rintro _ ⟨k, hk, hz, rfl⟩
  simp only [evX, evY, evZ, forall_const, implies_true, initE, stepF, D.clean, mvF, moF, tkF, shF, ariF, ciF, catF, scF, ebF, eqF, eqOk, eqPr, enF, notF, ngF, cvF, csF, csbF, lenF, lenSF, ixF, iaF, PX.slot, iaAF, faF, ldF, D.mem, stF, bxF, mkSF, boundF, fldF, ixAF, mmF2, D.plain, D.isPure, optAll, D.dull, callVF, splice, D.cells, D.one, sets, resT, D.flat, D.flat0, D.simple, Nat.reduceBNe, Nat.reduceLT, reduceIte, Nat.reduceEqDiff, Nat.reduceAdd, Nat.reduceMul, Nat.reduceSub, Nat.reduceLeDiff, Int.reduceToNat, Int.reduceLT, Int.reduceLE, Int.reduceEq, Int.reduceNeg, Int.reduceSub, Int.reduceAdd, Int.reduceMul, stG_own, ldC_txs]
  refine ⟨fun h3 => ⟨⟨by omega, by omega, by rw [List.length_map]; omega⟩, by omega, fun h4 => ?_, fun h4 => ?_⟩, fun h3 => ?_⟩
  · exact (dB_not.2 fun h => by have := h _ (getD_mem (show k < l.length by omega)); omega).symm
  · refine ⟨by omega, ⟨k + 1, by omega, fun j hj => ?_, by simp⟩, by omega⟩
    by_cases e : j = k
    · rw [e]; omega
    · exact hz j (by omega)
  · refine (dB_iff.2 fun s hs => ?_).symm
    obtain ⟨j, hj, rfl⟩ := List.getElem_of_mem hs
    have := hz j (by omega)
    rwa [List.getD_eq_getElem?_getD, List.getElem?_eq_getElem hj] at this
/-- few, as the law says it -/
def fewT (l : TT) : Prop := (l.length ≤ 4 ∨ (12 ≤ l.length ∧ l.length ≤ 14)) ∧ ∀ r ∈ l, (r.length ≤ 4 ∨ (l.length ≤ 1 ∧ r.length ≤ 14)) ∧ ∀ s ∈ r, s.length ≤ 40
theorem fewT_sz {l : TT} (h : fewT l) : SzT l := ⟨by have := h.1; omega, fun r hr => ⟨by have := (h.2 r hr).1; omega, fun s hs => by have := (h.2 r hr).2 s hs; omega⟩⟩
set_option maxHeartbeats 4000000 in
theorem Tryz.xfew (l : TT) (hl : l.length ≤ 1048576) (hl2 : ∀ r ∈ l, r.length ≤ 1048576) : Con Tryz.prog Tryz.L 37 [mtD l] (.bool (dB (fewT l))) := by
  have ml := mxs_len l
  refine rule37 Tryz.hL rfl rfl rfl ?_
  (simp only [pc37, rs37, oU, oC]; refine ev ?_; try with_reducible exact trivial)
  refine ⟨fun h4 => ⟨fun h5 => ⟨fun h6 => ?_, fun h6 => ?_⟩, fun h5 => ?_⟩, fun h4 => ?_⟩
  · exact (dB_not.2 fun h => by have := h.1; omega).symm
  rotate_left
  · exact (dB_not.2 fun h => by have := h.1; omega).symm
  all_goals
    have h1 : l.length ≤ 4 ∨ (12 ≤ l.length ∧ l.length ≤ 14) := by omega
    refine loopF_of (fun E => ∃ k : Nat, k ≤ l.length ∧ (∀ j, j < k → ((rwT l j).length ≤ 4 ∨ (l.length ≤ 1 ∧ (rwT l j).length ≤ 14)) ∧ ∀ s ∈ rwT l j, s.length ≤ 40) ∧ E = [(0, mtD l), (3, .int .i64 k)])
      (fun E => match lk E 3 with | .int _ i => l.length - i.toNat | _ => 0) ⟨0, Nat.zero_le _, fun _ h => absurd h (Nat.not_lt_zero _), rfl⟩ ?_
    rintro _ ⟨k, hk, hw, rfl⟩
    simp only [evX, evY, evZ, forall_const, implies_true, initE, stepF, D.clean, mvF, moF, tkF, shF, ariF, ciF, catF, scF, ebF, eqF, eqOk, eqPr, enF, notF, ngF, cvF, csF, csbF, lenF, lenSF, ixF, iaF, PX.slot, iaAF, faF, ldF, D.mem, stF, bxF, mkSF, boundF, fldF, ixAF, mmF2, D.plain, D.isPure, optAll, D.dull, callVF, splice, D.cells, D.one, sets, resT, D.flat, D.flat0, D.simple, Nat.reduceBNe, Nat.reduceLT, reduceIte, Nat.reduceEqDiff, Nat.reduceAdd, Nat.reduceMul, Nat.reduceSub, Nat.reduceLeDiff, Int.reduceToNat, Int.reduceLT, Int.reduceLE, Int.reduceEq, Int.reduceNeg, Int.reduceSub, Int.reduceAdd, Int.reduceMul, stG_own, ldC_mxs]
    refine ⟨fun h7 => ⟨⟨by omega, by omega, by omega⟩, by omega, fun h8 => ⟨fun h9 => ⟨⟨by omega, by omega, by omega⟩, by omega, fun h10 => ⟨⟨by omega, by omega, by omega⟩, by omega, ?_⟩, fun h10 => ?_⟩, fun h9 => ?_⟩, fun h8 => ⟨⟨by omega, by omega, by omega⟩, by omega, ?_⟩⟩, fun h7 => ?_⟩
    · refine callF_of (Tryz.xshort40 (rwT l k) (hl2 _ (rwT_mem (show k < l.length by omega)))) ?_
      (refine ev ?_; try with_reducible exact trivial)
      refine ⟨fun h => ?_, fun h => ⟨by omega, ⟨k + 1, by omega, fun j hj => ?_, by simp⟩, by omega⟩⟩
      · exact (dB_not.2 fun hf => h (hf.2 _ (rwT_mem (show k < l.length by omega))).2).symm
      · by_cases e : j = k
        · rw [e]; exact ⟨by omega, Classical.not_not.1 h⟩
        · exact hw j (by omega)
    · exact (dB_not.2 fun hf => by have := (hf.2 _ (rwT_mem (show k < l.length by omega))).1; omega).symm
    · exact (dB_not.2 fun hf => by have := (hf.2 _ (rwT_mem (show k < l.length by omega))).1; omega).symm
    · refine callF_of (Tryz.xshort40 (rwT l k) (hl2 _ (rwT_mem (show k < l.length by omega)))) ?_
      (refine ev ?_; try with_reducible exact trivial)
      refine ⟨fun h => ?_, fun h => ⟨by omega, ⟨k + 1, by omega, fun j hj => ?_, by simp⟩, by omega⟩⟩
      · exact (dB_not.2 fun hf => h (hf.2 _ (rwT_mem (show k < l.length by omega))).2).symm
      · by_cases e : j = k
        · rw [e]; exact ⟨by omega, Classical.not_not.1 h⟩
        · exact hw j (by omega)
    · obtain rfl : k = l.length := by omega
      exact (dB_iff.2 ⟨h1, all_rw (p := fun r => (r.length ≤ 4 ∨ (l.length ≤ 1 ∧ r.length ≤ 14)) ∧ ∀ s ∈ r, s.length ≤ 40) hw⟩).symm
set_option maxRecDepth 100000 in
set_option maxHeartbeats 8000000 in
theorem Tryz.lchecks (l : TT) (hl : l.length ≤ 1048576) (hl2 : ∀ r ∈ l, r.length ≤ 1048576) : Con Tryz.prog Tryz.L 10 [mtD l] (.bool true) := by
  refine rule10 Tryz.hL rfl rfl rfl ?_
  (simp only [pc10, rs10, oU, oC]; refine ev ?_; try with_reducible exact trivial)
  refine callF_of Tryz.mknown ?_
  (refine ev ?_; try with_reducible exact trivial)
  refine callF_of (Tryz.xfew l hl hl2) ?_
  (refine ev ?_; try with_reducible exact trivial)
  refine ⟨fun h => ?_, fun h => ?_⟩
  · refine callF_of Tryz.mknown ?_
    (refine ev ?_; try with_reducible exact trivial)
  · have hf : fewT l := Classical.not_not.1 h
    have hz := fewT_sz hf
    refine callF_of (Tryz.xcheckS l hz) ?_
    (refine ev ?_; try with_reducible exact trivial)
    refine callF_of (Tryz.mcheckS l hz) ?_
    (refine ev ?_; try with_reducible exact trivial)
    intro he
    refine callF_of (Tryz.etranspose l hz he) ?_
    (refine ev ?_; try with_reducible exact trivial)
    refine callF_of (Tryz.emul l hz he) ?_
    (refine ev ?_; try with_reducible exact trivial)
    refine callF_of (Tryz.eapply l hz he) ?_
    (refine ev ?_; try with_reducible exact trivial)
    refine callF_of (Tryz.ereduce l hz he) ?_
    (refine ev ?_; try with_reducible exact trivial)
    refine callF_of (Tryz.erank l hz he) ?_
    (refine ev ?_; try with_reducible exact trivial)
    refine callF_of (Tryz.edet l hz he) ?_
    (refine ev ?_; try with_reducible exact trivial)
    refine callF_of (Tryz.einv l hz he) ?_
    (refine ev ?_; try with_reducible exact trivial)
    refine callF_of (Tryz.ekernel l hz he) ?_
    (refine ev ?_; try with_reducible exact trivial)
    refine callF_of (Tryz.esolve l hz he) ?_
    (refine ev ?_; try with_reducible exact trivial)
    refine ⟨by decide, by decide, by decide, by decide, by decide, by decide, by decide, fun h => h (by decide)⟩
end Go.Proofs
