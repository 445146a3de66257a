/-
  MATRIX: sizes of the solution of a system whose right side has numbers of 20 bytes. Own work.
-/
import Derived.Test.YtglbjagibldkgaaGreatDoorSi
import Derived.Test.YtglbjagibldkgaaGreatDoorPj
set_option linter.unusedVariables false
set_option linter.unusedSimpArgs false
namespace Go.Mx
open Go Go.Proofs

theorem nb_over {a b k : Nat} {x : Rat} {D : Nat} (h0 : 0 < D) (h1 : D ≤ 10 ^ k) (h : NB a b (x * (D : Rat))) : NB a (b + k) x := by
  obtain ⟨u, d, g1, g2, g3, g4⟩ := h
  refine ⟨u, d * D, Nat.mul_pos g1 h0, by rw [Nat.pow_add]; exact Nat.mul_le_mul g2 h1, g3, ?_⟩
  rw [Rat.natCast_mul, ← g4]
  grind
/-- the system with its right side beside -/
theorem wide_rb {n m : Nat} {F : Mtx} {y : Nat → Rat} (hF : ∀ i j, ∃ u : Int, u.natAbs ≤ 38 ∧ F i j * 2 = (u : Rat)) (hy : ∀ i, i < n → NB 20 20 (y i)) : RBs 22 n (m + 1) (wideM m F fun i _ => y i) := fun i hi => by
  obtain ⟨p, q, q0, q1, q2, q3⟩ := hy i hi
  have hp21 : (10 : Nat) ^ 22 = 100 * 10 ^ 20 := by decide
  refine ⟨2 * q, by omega, by rw [hp21]; omega, fun j _ => ?_⟩
  unfold wideM
  by_cases h : j < m
  · rw [if_pos h]
    obtain ⟨u, h1, h2⟩ := hF i j
    refine ⟨u * q, ?_, ?_⟩
    · rw [Int.natAbs_mul, Int.natAbs_natCast, hp21]
      exact Nat.mul_le_mul (by omega) q1
    · rw [Rat.natCast_mul, Rat.intCast_mul, Rat.intCast_natCast, ← h2]
      have : ((2 : Nat) : Rat) = 2 := rfl
      rw [this]
      grind
  · rw [if_neg h]
    refine ⟨2 * p, by rw [hp21]; omega, ?_⟩
    rw [Rat.natCast_mul, Rat.intCast_mul, ← q3]
    have : ((2 : Nat) : Rat) = 2 := rfl
    have e2 : ((2 : Int) : Rat) = 2 := rfl
    rw [this, e2]
    grind
/-- the numbers of the solution -/
theorem sol_nb {n m : Nat} {F : Mtx} {y : Nat → Rat} (hn : n ≤ 4) (hm : m ≤ 4) (hF : ∀ i j, ∃ u : Int, u.natAbs ≤ 38 ∧ F i j * 2 = (u : Rat)) (hy : ∀ i, i < n → NB 20 20 (y i)) : ∀ j, NB 151 127 (solV (redM n (wideM m F fun i _ => y i) m) m j) := fun j => by
  have hT : RBs 2 n (m + n) (wideM m F oneM) := fun i _ => by
    refine ⟨2, by decide, by decide, fun j _ => ?_⟩
    unfold wideM
    by_cases h : j < m
    · rw [if_pos h]
      obtain ⟨u, h1, h2⟩ := hF i j
      exact ⟨u, by omega, h2⟩
    · rw [if_neg h]
      unfold oneM
      split
      · exact ⟨2, by decide, by decide +kernel⟩
      · exact ⟨0, by decide, by decide +kernel⟩
  have hT2 := rbs_red hT (w := m) (by omega)
  have hp : (2 + 1) * 2 ^ m ≤ 48 := pow4 hm
  have hle : (redM n (wideM m F fun i _ => y i) m).lead.length ≤ n := (good_red n _ m).len
  unfold solV
  cases hq : posn (redM n (wideM m F fun i _ => y i) m).lead j with
  | none => exact NB.zero.mono (Nat.zero_le _) (Nat.zero_le _)
  | some t =>
    have ht : t < (redM n (wideM m F fun i _ => y i) m).lead.length := (List.getElem?_eq_some_iff.1 (posn_some hq)).1
    have hl := red_lin (n := n) (m := m) F (fun i _ => y i) (w := m) (Nat.le_refl m) t (by omega) 0
    show NB 151 127 ((redM n (wideM m F fun i _ => y i) m).F t m)
    rw [Nat.add_zero] at hl
    rw [hl]
    obtain ⟨D, d0, d1, d2⟩ := (hT2 t (by omega)).mono (show (2 + 1) * 2 ^ m - 1 ≤ 47 by omega)
    refine nb_over (a := 151) (b := 80) (k := 47) d0 d1 ?_
    rw [Rat.mul_comm, ← sm_mul]
    have := NB.sum (n := n) (a := 67) (b := 20) (f := fun q => (D : Rat) * ((redM n (wideM m F oneM) m).F t (m + q) * y q)) fun q hq => by
      obtain ⟨u, u1, u2⟩ := d2 (m + q) (by omega)
      obtain ⟨v, e, e0, e1, v1, v2⟩ := hy q hq
      refine ⟨u * v, e, e0, e1, by rw [Int.natAbs_mul, Nat.pow_add 10 47 20]; exact Nat.mul_le_mul u1 v1, ?_⟩
      rw [Rat.intCast_mul, ← u2, ← v2]
      grind
    have h21 : n * (20 + 1) ≤ 4 * 21 := Nat.mul_le_mul_right _ hn
    have h20 : n * 20 ≤ 4 * 20 := Nat.mul_le_mul_right _ hn
    exact this.mono (by omega) (by omega)
end Go.Mx

/-
  MATRIX: the reference's Solve. Own work.
-/
namespace Go.Proofs
open Go Go.Pi Go.RowKit Go.Shelf Go.Ar Go.Mx

noncomputable def solX (n m : Nat) (s : RSt) : D := @ite D (okS n m s) (Classical.propDecidable _) (.tup [rowD m (solV s m), .int .i64 (if s.lead.length < m then 2 else 1)]) (.tup [.sl 0 [], .int .i64 3])
theorem strs_wide (m : Nat) (F : Mtx) (y : Nat → Rat) (k : Nat) : strs m (F k) ++ [.str (rt (y k))] = strs (m + 1) (wideM m F (fun i _ => y i) k) := by
  rw [strs_succ]
  have h1 : strs m (wideM m F (fun i _ => y i) k) = strs m (F k) := lst_congr fun j hj => by
    show D.str (rt (wideM m F (fun i _ => y i) k j)) = D.str (rt (F k j))
    rw [show wideM m F (fun i _ => y i) k j = F k j from if_pos hj]
  rw [h1, show wideM m F (fun i _ => y i) k m = y k from if_neg (Nat.lt_irrefl m)]
set_option maxRecDepth 100000 in
set_option maxHeartbeats 8000000 in
theorem Tryz.xsolve (n m : Nat) (F : Mtx) (y : Nat → Rat) (hn1 : 0 < n) (hn : n ≤ 12) (hm : m ≤ 12) (hb : Bnd n (m + 1) (m + 1) (wideM m F fun i _ => y i)) :
    Con Tryz.prog Tryz.L 30 [matD n m F, rowD n y] (solX n m (redM n (wideM m F fun i _ => y i) m)) := by
  have hcl := Tryz.xcolumns n m F (by omega) (fun h => absurd h (by omega))
  have hrd := Tryz.xred n (m + 1) (wideM m F fun i _ => y i) hn (by omega) (fun h => absurd h (by omega)) hb
  have hms := @red_more_has n m (wideM m F fun i _ => y i)
  have hmo := @red_more_ok n m (wideM m F fun i _ => y i)
  have hle := lead_len (n := n) (w := m + 1) (wideM m F fun i _ => y i)
  have hlw := lead_w (n := n) (w := m + 1) (wideM m F fun i _ => y i)
  have hgd := good_red n (wideM m F fun i _ => y i) m
  generalize hR : redM n (wideM m F fun i _ => y i) (m + 1) = R at *
  generalize hs : redM n (wideM m F fun i _ => y i) m = s at *
  refine rule30 Tryz.hL (by unfold solX; split <;> rfl) rfl rfl ?_
  (simp only [pc30, rs30, oU, oC]; refine ev ?_; try with_reducible exact trivial)
  refine callF_of hcl ?_
  (refine ev ?_; try with_reducible exact trivial)
  refine loopF_of (fun E => ∃ k : Nat, k ≤ n ∧ E = [(0, matD n m F), (1, rowD n y), (6, .int .i64 m), (7, .own true 49 k (rowsD k (m + 1) (wideM m F fun i _ => y i))), (8, .int .i64 k)])
    (fun E => match lk E 8 with | .int _ i => n - i.toNat | _ => 0) ⟨0, Nat.zero_le _, rfl⟩ ?_
  rintro _ ⟨k, hk, rfl⟩
  (refine ev ?_; try with_reducible exact trivial)
  refine ⟨fun h3 => ?_, fun h3 => ?_⟩
  · have hkn : k < n := by omega
    refine ⟨⟨by omega, by omega, by rw [rowsD_len]; omega⟩, ?_⟩
    rw [ldC_rowsD]
    refine ⟨hkn, ?_⟩
    (refine ev ?_; try with_reducible exact trivial)
    refine ⟨by rw [strs_len], by omega, by omega, ⟨by omega, by omega, by rw [strs_len]; omega⟩, ?_⟩
    rw [ldC_strsM]
    refine ⟨hkn, ?_⟩
    (refine ev ?_; try with_reducible exact trivial)
    rw [strs_wide]
    refine ⟨by omega, by omega, by omega, by omega, by omega, ⟨k + 1, by omega, by rw [rowsD_succ], by simp⟩, by omega⟩
  · obtain rfl : k = n := by omega
    refine callF_of hrd ?_
    (refine ev ?_; try with_reducible exact trivial)
    have hh := Tryz.xhas R.lead m (by omega)
    by_cases hok : okS k m s
    · rw [decide_eq_false (fun h => hms.1 h hok)] at hh
      have hR2 := hmo hok
      have hsx : solX k m s = .tup [rowD m (solV s m), .int .i64 (if s.lead.length < m then 2 else 1)] := if_pos hok
      subst hR2
      refine callF_of hh ?_
      (refine ev ?_; try with_reducible exact trivial)
      have hl : s.lead.length ≤ k := hle
      clear hh hms hmo hle hrd hR hlw hcl hb
      refine loopF_of (fun E => ∃ c : Nat, c ≤ m ∧ E = [(6, .int .i64 m), (9, matD s.lead.length (m + 1) s.F), (10, .sl s.lead.length (s.lead.map fun c : Nat => .int .i64 c)), (12, .own true 42 c (strs c fun _ => 0)), (13, .int .i64 c)])
        (fun E => match lk E 13 with | .int _ i => m - i.toNat | _ => 0) ⟨0, Nat.zero_le _, rfl⟩ ?_
      rintro _ ⟨c, hc, rfl⟩
      (refine ev ?_; try with_reducible exact trivial)
      refine ⟨fun h4 => ?_, fun h4 => ?_⟩
      · exact ⟨by omega, by omega, by omega, ⟨c + 1, by omega, by rw [strs_succ, rt_zero.2 rfl], by simp⟩, by omega⟩
      · obtain rfl : m = c := by omega
        refine loopF_of (fun E => ∃ t : Nat, t ≤ s.lead.length ∧ E = [(6, .int .i64 m), (9, matD s.lead.length (m + 1) s.F), (10, .sl s.lead.length (s.lead.map fun c : Nat => .int .i64 c)), (12, .own true 42 m (strs m (ovr (s.lead.take t) (fun _ => 0) (fun t => s.F t m)))), (14, .int .i64 t)])
          (fun E => match lk E 14 with | .int _ i => s.lead.length - i.toNat | _ => 0) ⟨0, Nat.zero_le _, rfl⟩ ?_
        rintro _ ⟨t, ht, rfl⟩
        (refine ev ?_; try with_reducible exact trivial)
        refine ⟨fun h5 => ?_, fun h5 => ?_⟩
        · have ht2 : t < s.lead.length := by omega
          have hld : s.lead.getD t 0 < m := hgd.lt _ (by rw [List.getD_eq_getElem?_getD, List.getElem?_eq_getElem ht2]; exact List.getElem_mem ht2)
          refine ⟨⟨by omega, by omega, by rw [List.length_map]; omega⟩, ?_⟩
          rw [ldC_nats]
          refine ⟨ht2, ?_⟩
          have hst := ovr_step hgd.inc ht2 (fun _ => (0 : Rat)) (fun t => s.F t m)
          generalize s.lead.getD t 0 = q at *
          simp only [evX, evY, evZ, forall_const, implies_true, initE, stepF, D.clean, mvF, moF, tkF, shF, ariF, ciF, catF, scF, ebF, eqF, eqOk, eqPr, enF, notF, ngF, cvF, csF, csbF, lenF, lenSF, ixF, iaF, PX.slot, iaAF, faF, ldF, D.mem, stF, bxF, mkSF, boundF, fldF, ixAF, mmF2, D.plain, D.isPure, optAll, D.dull, callVF, splice, D.cells, D.one, sets, resT, D.flat, D.flat0, D.simple, Nat.reduceBNe, Nat.reduceLT, reduceIte, Nat.reduceEqDiff, Nat.reduceAdd, Nat.reduceMul, Nat.reduceSub, Nat.reduceLeDiff, Int.reduceToNat, Int.reduceLT, Int.reduceLE, Int.reduceEq, Int.reduceNeg, Int.reduceSub, Int.reduceAdd, Int.reduceMul, stG_own, ldC_rowsD, ldC_strsM]
          refine ⟨⟨by omega, by omega, by rw [rowsD_len]; omega⟩, by omega, ⟨by omega, by omega, by rw [strs_len]; omega⟩, by omega, ?_⟩
          rw [stG_str, strs_len, strs_set, hst]
          refine ⟨⟨by omega, by omega, by omega⟩, by omega, ?_⟩
          (refine ev ?_; try with_reducible exact trivial)
          exact ⟨by omega, ⟨t + 1, by omega, rfl, by simp⟩, by omega⟩
        · obtain rfl : s.lead.length = t := by omega
          rw [List.take_length, ← solV_ovr s m, hsx]
          by_cases h6 : s.lead.length < m
          · rw [if_pos h6]
            exact ⟨fun _ => rfl, fun h => absurd (by omega) h⟩
          · rw [if_neg h6]
            exact ⟨fun h => absurd h (by omega), fun _ => rfl⟩
    · rw [decide_eq_true (hms.2 hok)] at hh
      have hsx : solX k m s = .tup [.sl 0 [], .int .i64 3] := if_neg hok
      refine callF_of hh ?_
      (refine ev ?_; try with_reducible exact trivial)
      rw [hsx]
      exact ⟨fun _ => rfl, fun h => absurd (by omega) h⟩
end Go.Proofs

/-
  MATRIX: MatrixSolves. Own work.
-/
namespace Go.Proofs
open Go Go.Pi Go.RowKit Go.Shelf Go.Ar Go.Mx

theorem Tryz.xsolve0 : Con Tryz.prog Tryz.L 30 [.sl 0 [], .sl 0 []] (.tup [.sl 0 [], .int .i64 1]) := by
  refine rule30 Tryz.hL rfl rfl rfl ?_
  (simp only [pc30, rs30, oU, oC]; refine ev ?_; try with_reducible exact trivial)
  refine callF_of (Tryz.xcolumns 0 0 (fun _ _ => 0) (by decide) (fun _ => rfl)) ?_
  (refine ev ?_; try with_reducible exact trivial)
  refine loopF_of (fun E => E = [(0, .sl 0 []), (1, .sl 0 []), (6, .int .i64 0), (7, .own true 49 0 []), (8, .int .i64 0)]) (fun _ => 0) rfl ?_
  rintro _ rfl
  (refine ev ?_; try with_reducible exact trivial)
  refine ⟨fun h => absurd h (by omega), fun _ => ?_⟩
  refine callF_of (Tryz.xreduced0 0 0 (fun _ _ => 0) (by decide) (.inl rfl) (fun _ => rfl)) ?_
  (refine ev ?_; try with_reducible exact trivial)
  have hh := Tryz.xhas [] 0 (by decide)
  rw [show decide (0 ∈ ([] : List Nat)) = false from rfl] at hh
  refine callF_of hh ?_
  (refine ev ?_; try with_reducible exact trivial)
  refine loopF_of (fun E => E = [(6, .int .i64 0), (9, .sl 0 []), (10, .sl 0 []), (12, .own true 42 0 []), (13, .int .i64 0)]) (fun _ => 0) rfl ?_
  rintro _ rfl
  (refine ev ?_; try with_reducible exact trivial)
  refine loopF_of (fun E => E = [(6, .int .i64 0), (9, .sl 0 []), (10, .sl 0 []), (12, .own true 42 0 []), (14, .int .i64 0)]) (fun _ => 0) rfl ?_
  rintro _ rfl
  (refine ev ?_; try with_reducible exact trivial)
  exact ⟨fun h => absurd h (by omega), fun _ => ⟨fun h => absurd h (by omega), fun _ => rfl⟩⟩
theorem Tryz.xsolveA (n m : Nat) (F : Mtx) (y : Nat → Rat) (hn : n ≤ 12) (hm : m ≤ 12) (h0 : n = 0 → m = 0) (hb : Bnd n (m + 1) (m + 1) (wideM m F fun i _ => y i)) :
    Con Tryz.prog Tryz.L 30 [matD n m F, rowD n y] (solX n m (redM n (wideM m F fun i _ => y i) m)) := by
  rcases Nat.eq_zero_or_pos n with h | h
  · subst h
    obtain rfl := h0 rfl
    have hok : okS 0 0 (redM 0 (wideM 0 F fun i _ => y i) 0) := fun i _ h2 => absurd h2 (Nat.not_lt_zero _)
    have e : solX 0 0 (redM 0 (wideM 0 F fun i _ => y i) 0) = .tup [.sl 0 [], .int .i64 1] := by
      unfold solX
      rw [if_pos hok]; rfl
    rw [e]
    exact Tryz.xsolve0
  · exact Tryz.xsolve n m F y h hn hm hb
set_option maxRecDepth 100000 in
set_option maxHeartbeats 8000000 in
theorem Tryz.lsolves (g : Grd) (l : List (List UInt8)) (hg : g.ok) (hl1 : l.length ≤ 1048576) (hs1 : ∀ s ∈ l, s.length ≤ 1048576) : Con Tryz.prog Tryz.L 6 [.agg g.D, .sl l.length (txs l)] (.bool true) := by
  have hgn := g.n4; have hgm := g.m4
  have hgd := good_red g.n g.F g.m
  have hrb := rbs_red g.rb (w := g.m) (Nat.le_refl _)
  have hp4 : (2 + 1) * 2 ^ g.m ≤ 48 := pow4 hgm
  have hrb : RBs 47 g.n g.m (redM g.n g.F g.m).F := fun i hi => (hrb i hi).mono (by omega)
  have hB := bnd_of g.rb (Nat.le_refl g.m) (by omega)
  have hker := Tryz.mkernel g.n g.m g.F (by omega) (by omega) g.nm g.rts hB (fun i hi j _ => by have := rd_of_nb (kerM_nb hrb hgd hi j); omega)
  have hfc := free_count hgd.inc hgd.lt
  have hxk := Con.flat (Tryz.xkernel g.n g.m g.F (by omega) (by omega) g.nm hB)
  have hsm := Tryz.xsame (freeC (redM g.n g.F g.m).lead g.m).length g.m (kerM (redM g.n g.F g.m) g.m) (by omega) (by omega)
  refine rule6 Tryz.hL rfl rfl rfl ?_
  (simp only [pc6, rs6, oU, oC]; refine ev ?_; try with_reducible exact trivial)
  refine ⟨g19 g, gone g, ?_⟩
  refine callF_of Tryz.mknown ?_
  simp only [evX, evY, evZ, forall_const, implies_true, initE, stepF, D.clean, mvF, moF, tkF, shF, ariF, ciF, catF, scF, ebF, eqF, eqOk, eqPr, enF, notF, ngF, cvF, csF, csbF, lenF, lenSF, ixF, iaF, PX.slot, iaAF, faF, ldF, D.mem, stF, bxF, mkSF, boundF, fldF, ixAF, mmF2, D.plain, D.isPure, optAll, D.dull, callVF, splice, D.cells, D.one, sets, resT, D.flat, D.flat0, D.simple, Nat.reduceBNe, Nat.reduceLT, reduceIte, Nat.reduceEqDiff, Nat.reduceAdd, Nat.reduceMul, Nat.reduceSub, Nat.reduceLeDiff, Int.reduceToNat, Int.reduceLT, Int.reduceLE, Int.reduceEq, Int.reduceNeg, Int.reduceSub, Int.reduceAdd, Int.reduceMul, stG_own, gl19]
  refine ⟨fun h => ?_, fun h => ?_⟩
  rotate_left
  · refine callF_of Tryz.mknown ?_
    (refine ev ?_; try with_reducible exact trivial)
  · have hl6 : l.length ≤ 6 := by omega
    refine callF_of (Tryz.xshorter l (by omega)) ?_
    simp only [evX, evY, evZ, forall_const, implies_true, initE, stepF, D.clean, mvF, moF, tkF, shF, ariF, ciF, catF, scF, ebF, eqF, eqOk, eqPr, enF, notF, ngF, cvF, csF, csbF, lenF, lenSF, ixF, iaF, PX.slot, iaAF, faF, ldF, D.mem, stF, bxF, mkSF, boundF, fldF, ixAF, mmF2, D.plain, D.isPure, optAll, D.dull, callVF, splice, D.cells, D.one, sets, resT, D.flat, D.flat0, D.simple, Nat.reduceBNe, Nat.reduceLT, reduceIte, Nat.reduceEqDiff, Nat.reduceAdd, Nat.reduceMul, Nat.reduceSub, Nat.reduceLeDiff, Int.reduceToNat, Int.reduceLT, Int.reduceLE, Int.reduceEq, Int.reduceNeg, Int.reduceSub, Int.reduceAdd, Int.reduceMul, stG_own, gl19]
    refine ⟨fun h2 => ?_, fun h2 => ?_⟩
    · refine callF_of Tryz.mknown ?_
      (refine ev ?_; try with_reducible exact trivial)
    · have h20 : ∀ s ∈ l, s.length ≤ 20 := Classical.not_not.1 h2
      have hs : ∀ s ∈ l, s.length ≤ 1000 := fun s h => by have := h20 s h; omega
      refine callF_of (Tryz.mmake g hg) ?_
      (refine ev ?_; try with_reducible exact trivial)
      refine callF_of hker ?_
      (refine ev ?_; try with_reducible exact trivial)
      have hN := Tryz.xnumbers l (by omega) hs
      by_cases hok : ∀ s ∈ l, okR s
      · rw [dB_iff.2 hok] at hN
        by_cases hlm : l.length = g.n
        · have e : D.sl l.length (txs l) = rowD g.n (vals l) := by rw [txs_strs hok, hlm]
          have hx : Rt g.n (vals l) := by rw [← hlm]; exact vals_rt hok
          have hnb : ∀ i, i < g.n → NB 20 20 (vals l i) := fun i hi => vals_nb hok h20 i (by omega)
          have hw := wide_rb (n := g.n) (m := g.m) (F := g.F) (y := vals l) g.half hnb
          have hp5 : (22 + 1) * 2 ^ (g.m + 1) ≤ 736 := by
            rw [Nat.pow_succ]
            have : 2 ^ g.m ≤ 2 ^ 4 := Nat.pow_le_pow_right (by decide) hgm
            omega
          have hB1 := bnd_of hw (Nat.le_refl (g.m + 1)) (by omega)
          have hB2 : Bnd g.n (g.m + 1) g.m (wideM g.m g.F fun i _ => vals l i) := fun q hq => hB1 q (by omega)
          have hsol := Tryz.msolveA g.n g.m g.F (vals l) (by omega) (by omega) g.nm g.rts hx hB2 (fun _ j _ => by
            have := rd_nb (sol_nb hgn hgm g.half hnb j)
            show rd _ ≤ 200
            omega)
          have hxs := Tryz.xsolveA g.n g.m g.F (vals l) (by omega) (by omega) g.nm hB1
          have hal := Tryz.xalike g.m (solV (redM g.n (wideM g.m g.F fun i _ => vals l i) g.m) g.m) (by omega)
          rw [← e] at hsol hxs
          generalize redM g.n (wideM g.m g.F fun i _ => vals l i) g.m = s at *
          by_cases hks : okS g.n g.m s
          · rw [show solD g.n g.m s = _ from if_pos hks] at hsol
            rw [show solX g.n g.m s = _ from if_pos hks] at hxs
            refine callF_of hsol ?_
            (refine ev ?_; try with_reducible exact trivial)
            refine callF_of hxk ?_
            (refine ev ?_; try with_reducible exact trivial)
            refine callF_of hsm ?_
            (refine ev ?_; try with_reducible exact trivial)
            refine callF_of hN ?_
            (refine ev ?_; try with_reducible exact trivial)
            refine ⟨fun h => absurd (by omega) h, fun _ => ?_⟩
            refine callF_of hxs ?_
            (refine ev ?_; try with_reducible exact trivial)
            refine callF_of hal ?_
            (refine ev ?_; try with_reducible exact trivial)
          · rw [show solD g.n g.m s = _ from if_neg hks] at hsol
            rw [show solX g.n g.m s = _ from if_neg hks] at hxs
            refine callF_of hsol ?_
            (refine ev ?_; try with_reducible exact trivial)
            refine callF_of hxk ?_
            (refine ev ?_; try with_reducible exact trivial)
            refine callF_of hsm ?_
            (refine ev ?_; try with_reducible exact trivial)
            refine callF_of hN ?_
            (refine ev ?_; try with_reducible exact trivial)
            refine ⟨fun h => absurd (by omega) h, fun _ => ?_⟩
            refine callF_of hxs ?_
            (refine ev ?_; try with_reducible exact trivial)
            refine callF_of (Tryz.xalike 0 (fun _ => 0) (by decide)) ?_
            (refine ev ?_; try with_reducible exact trivial)
        · refine callF_of (Tryz.msolve5 g.n g.m g.F l (by omega) (by omega) g.rts (by omega) hs hok hlm) ?_
          (refine ev ?_; try with_reducible exact trivial)
          refine callF_of hxk ?_
          (refine ev ?_; try with_reducible exact trivial)
          refine callF_of hsm ?_
          (refine ev ?_; try with_reducible exact trivial)
          refine callF_of hN ?_
          (refine ev ?_; try with_reducible exact trivial)
          exact ⟨fun _ h => h rfl, fun h => absurd (fun h3 => hlm (by omega)) h⟩
      · rw [dB_not.2 hok] at hN
        refine callF_of (Tryz.msolve2 g.n g.m g.F l (by omega) (by omega) g.rts (by omega) hs hok) ?_
        (refine ev ?_; try with_reducible exact trivial)
        refine callF_of hxk ?_
        (refine ev ?_; try with_reducible exact trivial)
        refine callF_of hsm ?_
        (refine ev ?_; try with_reducible exact trivial)
        refine callF_of hN ?_
        (refine ev ?_; try with_reducible exact trivial)
        exact fun h => h rfl
end Go.Proofs
