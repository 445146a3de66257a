/-
  MATRIX: MatrixForms. Own work.
-/
import Derived.Test.YtglbjagibldkgaaGreatDoorPj
import Derived.Test.YtglbjagibldkgaaGreatDoorSh
set_option linter.unusedVariables false
set_option linter.unusedSimpArgs false
namespace Go.Proofs
open Go Go.Pi Go.RowKit Go.Shelf Go.Ar Go.Mx

theorem matD_congr {n m : Nat} {F G : Mtx} (h : ∀ i, i < n → ∀ j, j < m → F i j = G i j) : matD n m F = matD n m G := by
  have h1 : rowsD n m F = rowsD n m G := lst_congr fun i hi => by
    have h2 : strs m (F i) = strs m (G i) := lst_congr fun j hj => by
      show D.str (rt (F i j)) = D.str (rt (G i j))
      rw [h i hi j hj]
    show D.sl m _ = D.sl m _
    rw [h2]
  show D.sl n _ = D.sl n _
  rw [h1]
set_option maxRecDepth 100000 in
set_option maxHeartbeats 8000000 in
theorem Tryz.lforms (g : Grd) (hg : g.ok) : Con Tryz.prog Tryz.L 3 [.agg g.D] (.bool true) := by
  have hgn := g.n4; have hgm := g.m4
  have hgd := good_red g.n g.F g.m
  have hp4 : (2 + 1) * 2 ^ g.m ≤ 48 := pow4 hgm
  have hrb0 := rbs_red g.rb (w := g.m) (Nat.le_refl _)
  have hrb : RBs 47 g.n g.m (redM g.n g.F g.m).F := fun i hi => (hrb0 i hi).mono (by omega)
  have hB := bnd_of g.rb (Nat.le_refl g.m) (by omega)
  have hln := hgd.len
  have hss : Rts (redM g.n g.F g.m).lead.length g.m (redM g.n g.F g.m).F := fun i hi j hj => by
    have := rd_of_nb ((hrb i (Nat.lt_of_lt_of_le hi hgd.len)).nb hj); omega
  have hred := Tryz.mreduce g.n g.m g.F (by omega) (by omega) g.nm g.rts hB hss
  have hsm := Tryz.xsame (redM g.n g.F g.m).lead.length g.m (redM g.n g.F g.m).F (by omega) (by omega)
  -- once more
  have hagain : Con Tryz.prog Tryz.L 13 [matD (redM g.n g.F g.m).lead.length g.m (redM g.n g.F g.m).F] (.tup [matD (redM g.n g.F g.m).lead.length g.m (redM g.n g.F g.m).F, .sl (redM g.n g.F g.m).lead.length ((redM g.n g.F g.m).lead.map fun c : Nat => .int .i64 c), .int .i64 0]) := by
    by_cases hz : (redM g.n g.F g.m).lead.length = 0
    · have e1 : (redM g.n g.F g.m).lead = [] := List.length_eq_zero_iff.1 hz
      have h0 := Tryz.mreduce 0 0 (redM g.n g.F g.m).F (by decide) (by decide) (fun _ => rfl) (fun _ h => absurd h (Nat.not_lt_zero _)) (fun q hq => ⟨fun _ h => absurd h (Nat.not_lt_zero _), by
        obtain rfl : q = 0 := by omega
        show rd 1 ≤ 900
        decide +kernel⟩) (fun _ h => absurd h (Nat.not_lt_zero _))
      rw [e1]
      exact h0
    · obtain ⟨a1, a2⟩ := red_again (n := g.n) (m := g.m) g.F
      have hB2 : Bnd (redM g.n g.F g.m).lead.length g.m g.m (redM g.n g.F g.m).F := bnd_of (k := 47) (fun i hi => hrb i (by omega)) (Nat.le_refl g.m) (by
        have : 2 ^ g.m ≤ 2 ^ 4 := Nat.pow_le_pow_right (by decide) hgm
        omega)
      have h1 := Tryz.mreduce (redM g.n g.F g.m).lead.length g.m (redM g.n g.F g.m).F (by omega) (by omega) (fun h => absurd h hz) hss hB2 (by rw [a2]; exact fun i hi j hj => by rw [a1 i hi j hj]; exact hss i hi j hj)
      rw [a2] at h1
      rw [matD_congr a1] at h1
      exact h1
  refine rule3 Tryz.hL rfl rfl rfl ?_
  (simp only [pc3, rs3, oU, oC]; refine ev ?_; try with_reducible exact trivial)
  refine ⟨g19 g, gone g, ?_⟩
  refine callF_of Tryz.mknown ?_
  simp only [evX, evY, evZ, forall_const, implies_true, initE, stepF, D.clean, mvF, moF, tkF, shF, ariF, ciF, catF, scF, ebF, eqF, eqOk, eqPr, enF, notF, ngF, cvF, csF, csbF, lenF, lenSF, ixF, iaF, PX.slot, iaAF, faF, ldF, D.mem, stF, bxF, mkSF, boundF, fldF, ixAF, mmF2, D.plain, D.isPure, optAll, D.dull, callVF, splice, D.cells, D.one, sets, resT, D.flat, D.flat0, D.simple, Nat.reduceBNe, Nat.reduceLT, reduceIte, Nat.reduceEqDiff, Nat.reduceAdd, Nat.reduceMul, Nat.reduceSub, Nat.reduceLeDiff, Int.reduceToNat, Int.reduceLT, Int.reduceLE, Int.reduceEq, Int.reduceNeg, Int.reduceSub, Int.reduceAdd, Int.reduceMul, stG_own, gl19]
  refine callF_of (Tryz.mmake g hg) ?_
  (refine ev ?_; try with_reducible exact trivial)
  refine callF_of hred ?_
  (refine ev ?_; try with_reducible exact trivial)
  refine callF_of hagain ?_
  (refine ev ?_; try with_reducible exact trivial)
  refine callF_of hsm ?_
  (refine ev ?_; try with_reducible exact trivial)
  by_cases hnm : g.n = g.m
  · have eD : matD g.n g.m g.F = matD g.n g.n g.F := by rw [hnm]
    have r1 : RBs 2 g.n g.n g.F := by have := g.rb; rwa [← hnm] at this
    have hpn : (2 + 1) * 2 ^ g.n ≤ 48 := pow4 hgn
    have rw2 : RBs 2 g.n (g.n + g.n) (wideM g.n g.F oneM) := fun i hi => by
      refine ⟨2, by decide, by decide, fun j hj => ?_⟩
      unfold wideM
      by_cases h : j < g.n
      · rw [if_pos h]
        obtain ⟨u, h1, h2⟩ := g.half i j
        exact ⟨u, by omega, h2⟩
      · rw [if_neg h]
        unfold oneM
        split
        · exact ⟨2, by decide, by decide +kernel⟩
        · exact ⟨0, by decide, by decide +kernel⟩
    have rw3 := rbs_red rw2 (w := g.n) (by omega)
    have inR : RBs 47 g.n (g.n + g.n) (redM g.n (wideM g.n g.F oneM) g.n).F := fun i hi => (rw3 i hi).mono (by omega)
    have inb : ∀ i, i < g.n → ∀ j, j < g.n → NB 47 47 (invM g.n g.F i j) := fun i hi j hj => (inR i hi).nb (j := g.n + j) (by omega)
    have hirt : Rts g.n g.n (invM g.n g.F) := fun i hi j hj => by have := rd_of_nb (inb i hi j hj); omega
    have hinv := Tryz.minv g.n g.F (by omega) (rts_of r1 (by decide)) (bnd_of rw2 (by omega) (by omega)) fun _ => hirt
    rw [← eD] at hinv
    have em : redM g.n g.F g.m = redM g.n g.F g.n := by rw [← hnm]
    by_cases hl : (redM g.n g.F g.n).lead.length = g.n
    · rw [if_pos hl] at hinv
      have rw4 : RBs 47 g.n (g.n + g.n) (wideM g.n (invM g.n g.F) oneM) := fun i hi => by
        obtain ⟨d, d0, d1, d2⟩ := inR i hi
        refine ⟨d, d0, d1, fun j hj => ?_⟩
        unfold wideM
        by_cases h : j < g.n
        · rw [if_pos h]
          exact d2 (g.n + j) (by omega)
        · rw [if_neg h]
          unfold oneM
          split
          · exact ⟨d, by simpa using d1, by rw [Rat.one_mul, Rat.intCast_natCast]⟩
          · exact ⟨0, by simp, by rw [Rat.zero_mul]; rfl⟩
      have hback := Tryz.minv g.n (invM g.n g.F) (by omega) hirt (bnd_of rw4 (by omega) (by
        have : 2 ^ g.n ≤ 2 ^ 4 := Nat.pow_le_pow_right (by decide) hgn
        omega)) (fun _ i hi j hj => by rw [inv_inv hl hi hj]; have := rts_of r1 (by decide) i hi j hj; exact this)
      rw [if_pos (inv_full hl), matD_congr (fun i hi j hj => inv_inv hl hi hj), ← eD] at hback
      have hsm2 := Tryz.xsame g.n g.m g.F (by omega) (by omega)
      refine callF_of hinv ?_
      (refine ev ?_; try with_reducible exact trivial)
      have hl2 : (redM g.n g.F g.m).lead.length = g.n := by rw [em]; exact hl
      refine ⟨fun h => absurd h (by omega), fun h => ?_⟩
      refine callF_of hback ?_
      (refine ev ?_; try with_reducible exact trivial)
      refine callF_of hsm2 ?_
      (refine ev ?_; try with_reducible exact trivial)
    · rw [if_neg hl] at hinv
      have hl2 : ¬(redM g.n g.F g.m).lead.length = g.n := by rw [em]; exact hl
      refine callF_of hinv ?_
      (refine ev ?_; try with_reducible exact trivial)
      exact fun h => absurd (by omega) h
  · refine callF_of (Tryz.minv5 g.n g.m g.F (by omega) (by omega) g.nm hnm g.rts) ?_
    (refine ev ?_; try with_reducible exact trivial)
    refine callF_of (Tryz.xcolumns g.n g.m g.F (by omega) g.nm) ?_
    (refine ev ?_; try with_reducible exact trivial)
    exact dB_iff.2 (by omega)
end Go.Proofs
