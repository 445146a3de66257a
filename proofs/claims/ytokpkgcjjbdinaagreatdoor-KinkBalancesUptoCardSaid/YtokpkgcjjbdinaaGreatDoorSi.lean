/-
 SURD: slices.SortFunc of at most 12 terms, in the plain walk. Own work.
-/
import Derived.Test.YtokpkgcjjbdinaaGreatDoorPl
import Derived.Test.YtokpkgcjjbdinaaGreatDoorSh
import Derived.Deep.LoopGhost
import Derived.Shelf.RegionOpenPlain
import Derived.Test.YtokpkgcjjbdinaaGreatDoorSg
import Derived.Test.YtokpkgcjjbdinaaGreatDoorSf
set_option linter.unusedVariables false
set_option linter.unusedSimpArgs false
namespace Go.Proofs
open Go Go.Pi Go.RowKit Go.Shelf Go.Ar

theorem Tryz.scmp (x y : Tm) (hx : dl (x.2 : Int) ≤ 9000) (hy : dl (y.2 : Int) ≤ 9000) : Con Tryz.prog Tryz.L 126 ([.agg (tD x), .agg (tD y)] ++ []) (.int .i64 (cmpZ (x.2 : Int) (y.2 : Int))) := by
 refine rule126 Tryz.hL rfl rfl rfl ?_
 simp only [pc126, rs126, oU, oC, tD, List.append_nil, evX, evY, evZ, forall_const, implies_true, initE, stepF, D.clean, mvF, moF, tkF, shF, ariF, ciF, catF, scF, ebF, eqF, eqOk, eqPr, enF, notF, ngF, cvF, csF, csbF, lenF, lenSF, ixF, iaF, PX.slot, iaAF, faF, ldF, D.mem, stF, bxF, mkSF, boundF, fldF, ixAF, mmF2, D.plain, D.isPure, optAll, D.dull, callVF, splice, D.cells, D.one, sets, resT, D.flat, D.flat0, D.simple, Nat.reduceBNe, Nat.reduceLT, reduceIte, Nat.reduceEqDiff, Nat.reduceAdd, Nat.reduceMul, Nat.reduceSub, Nat.reduceLeDiff, Int.reduceToNat, Int.reduceLT, Int.reduceLE, Int.reduceEq, Int.reduceNeg, Int.reduceSub, Int.reduceAdd, Int.reduceMul, stG_own]
 refine callF_of (Tryz.compare (x.2 : Int) (y.2 : Int) (by omega) (by omega)) ?_
 (refine ev ?_; try exact ⟨⟩)
theorem rep_tm (S : Nat → Nat → Prop) (W : World) (x : Tm) (h1 : rd x.1 ≤ 2000) (h2 : dl (x.2 : Int) ≤ 200) : Rep S W (.agg (tD x)) (.agg (stc x).toArray) := by
 refine Rep.agg (tD x) (stc x) rfl (by simp [tD, D.one]) fun i d v hd hv => ?_
 match i with
 | 0 => cases hd; cases hv; exact .str _ (by have := rt_len x.1; unfold maxLen; omega)
 | 1 => cases hd; cases hv; exact .str _ (by have := tz_dl (x.2 : Int); unfold maxLen; omega)
 | i + 2 => simp [tD] at hd
theorem Tryz.scmp_calls (x y : Tm) (hx : rd x.1 ≤ 2000 ∧ dl (x.2 : Int) ≤ 200) (hy : rd y.1 ≤ 2000 ∧ dl (y.2 : Int) ≤ 200) (W : World) (hL : Tryz.L W) :
  Calls Tryz.prog 126 #[.agg (stc x).toArray, .agg (stc y).toArray] W fun e W' => e = .returned (.int .i64 (cmpZ (x.2 : Int) (y.2 : Int))) ∧ Below W.heap.size W W' := by
 refine Calls.mono ((Tryz.scmp x y (by omega) (by omega)).2 (fun _ _ => False) W [.agg (stc x).toArray, .agg (stc y).toArray] (fun _ _ h => h.elim) hL (Reps.cons (rep_tm _ _ x hx.1 hx.2) (Reps.cons (rep_tm _ _ y hy.1 hy.2) .nil))) ?_
 rintro e W' ⟨v, rfl, hb, hr⟩
 cases hr
 exact ⟨rfl, hb⟩

/-- in order but for one place -/
def ordB (c : List Tm) (i j : Nat) : Prop := ∀ a b x y, a < b → b ≤ i → b ≠ j → c[a]? = some x → c[b]? = some y → x.2 ≤ y.2
def ordA (c : List Tm) (i : Nat) : Prop := ∀ a b x y, a < b → b < i → c[a]? = some x → c[b]? = some y → x.2 ≤ y.2
theorem ordB_of {c : List Tm} {i : Nat} (h : ordA c i) : ordB c i i := fun a b x y h1 h2 h3 => h a b x y h1 (by omega)
theorem ordA_zero {c : List Tm} {i : Nat} (h : ordB c i 0) : ordA c (i + 1) := fun a b x y h1 h2 => h a b x y h1 (by omega) (by omega)
theorem ordA_stop {c : List Tm} {i j : Nat} {p q : Tm} (h : ordB c i (j + 1)) (hp : c[j]? = some p) (hq : c[j + 1]? = some q) (hle : p.2 ≤ q.2) : ordA c (i + 1) := by
 intro a b x y h1 h2 ha hb
 by_cases e : b = j + 1
 ·subst e
  rw [hq] at hb; cases hb
  by_cases e2 : a = j
  ·subst e2; rw [hp] at ha; cases ha; exact hle
  ·exact Nat.le_trans (h a j x p (by omega) (by omega) (by omega) ha hp) hle
 ·exact h a b x y h1 (by omega) e ha hb
theorem ordB_swap {c : List Tm} {i j : Nat} {p q : Tm} (h : ordB c i (j + 1)) (hj : j + 1 ≤ i) (hp : c[j]? = some p) (hq : c[j + 1]? = some q) (hlt : q.2 < p.2) : ordB ((c.set (j + 1) p).set j q) i j := by
 have hl : j + 1 < c.length := (List.getElem?_eq_some_iff.1 hq).1
 have g : ∀ k, ((c.set (j + 1) p).set j q)[k]? = if k = j then some q else if k = j + 1 then some p else c[k]? := by
  intro k
  rw [List.getElem?_set, List.getElem?_set, List.length_set]
  by_cases e1 : k = j
  ·rw [if_pos e1.symm, if_pos (by omega), if_pos e1]
  ·rw [if_neg (Ne.symm e1), if_neg e1]
   by_cases e2 : k = j + 1
   ·rw [if_pos e2.symm, if_pos (by omega), if_pos e2]
   ·rw [if_neg (Ne.symm e2), if_neg e2]
 intro a b x y h1 h2 h3 ha hb
 rw [g] at ha hb
 rw [if_neg h3] at hb
 by_cases eb : b = j + 1
 ·rw [if_pos eb] at hb; cases hb
  by_cases ea : a = j
  ·rw [if_pos ea] at ha; cases ha; omega
  ·rw [if_neg ea, if_neg (by omega)] at ha
   exact h a j x p (by omega) (by omega) (by omega) ha hp
 ·rw [if_neg eb] at hb
  by_cases ea : a = j
  ·rw [if_pos ea] at ha; cases ha
   exact h (j + 1) b q y (by omega) h2 eb hq hb
  ·rw [if_neg ea] at ha
   by_cases ea2 : a = j + 1
   ·rw [if_pos ea2] at ha; cases ha
    exact h j b p y (by omega) h2 eb hp hb
   ·rw [if_neg ea2] at ha
    exact h a b x y h1 h2 eb ha hb
theorem swap_perm {c : List Tm} {j : Nat} {p q : Tm} (hp : c[j]? = some p) (hq : c[j + 1]? = some q) : ((c.set (j + 1) p).set j q).Perm c := by
 obtain ⟨h1, rfl⟩ := List.getElem?_eq_some_iff.1 hp
 obtain ⟨h2, rfl⟩ := List.getElem?_eq_some_iff.1 hq
 exact List.set_set_perm h2 h1
theorem ordA_sorted {c : List Tm} (h : ordA c c.length) : c.Pairwise fun x y => x.2 ≤ y.2 := by
 rw [List.pairwise_iff_getElem]
 intro a b ha hb hab
 exact h a b _ _ hab hb (List.getElem?_eq_getElem ha) (List.getElem?_eq_getElem hb)

set_option maxRecDepth 100000 in
set_option maxHeartbeats 4000000 in
theorem Tryz.sinsertion (w0 W : World) (v : Value) (l : List Tm) (hL0 : Tryz.L w0) (hbw : Below w0.heap.size w0 W) (hown : W.ownsRow w0.heap.size 141 2 v l.length (tcs l)) (hlen : l.length ≤ 12)
  (hl : ∀ y ∈ l, rd y.1 ≤ 2000 ∧ dl (y.2 : Int) ≤ 200) :
  Calls Tryz.prog 161 #[v, .int .i64 0, .int .i64 l.length, .func (.func 126) #[] #[]] W fun e W' => e = .returned (.tuple #[]) ∧
   ∃ r : List Tm, r.Perm l ∧ (r.Pairwise fun x y => x.2 ≤ y.2) ∧ W'.ownsRow w0.heap.size 141 2 v l.length (tcs r) ∧ W.grownBy W' v.ownBlock ∧ Below w0.heap.size w0 W' := by
 have mixed : Tryz.prog.follows .mixedOrders = true := by kernel_rfl
 have t0 := Tryz.underlying94; have a0 := Tryz.isAgg94; have z0 := Tryz.sizeOf94; have v0 := Tryz.zeroValue94; have u0 := run_underlying Tryz.underlying94
 have t1 := Tryz.underlying141; have a1 := Tryz.isAgg141; have z1 := Tryz.sizeOf141; have v1 := Tryz.zeroValue141; have u1 := run_underlying Tryz.underlying141
 have t3 := Tryz.underlying4; have a3 := Tryz.isAgg4; have z3 := Tryz.sizeOf4; have v3 := Tryz.zeroValue4; have u3 := run_underlying Tryz.underlying4
 have t4 := Tryz.underlying3; have a4 := Tryz.isAgg3; have z4 := Tryz.sizeOf3; have v4 := Tryz.zeroValue3; have u4 := run_underlying Tryz.underlying3
 have vsl : ∃ ad cap, v = .slice ad l.length cap := by
  rcases hown.2 with ⟨h1, h2⟩ | ⟨g, cap, cur, h1, _⟩
  ·exact ⟨none, 0, by rw [h1, h2]⟩
  ·exact ⟨_, _, h1⟩
 obtain ⟨ad, cap, rfl⟩ := vsl
 have HL : Hid (∀ y ∈ l, rd y.1 ≤ 2000 ∧ dl (y.2 : Int) ≤ 200) := hl
 clear hl
 go_enter Tryz.func161, Tryz.ntmps161
 go_wp2
 go_loopg [8] (l.length) (fun g1 vi wr => ∃ (i : Nat) (c : List Tm), vi = .int .i64 i ∧ 1 ≤ i ∧ i ≤ l.length + 1 ∧ l.length ≤ g1 + i ∧ c.Perm l ∧ Hid (ordA c i) ∧ wr.ownsRow w0.heap.size 141 2 (.slice ad l.length cap) l.length (tcs c) ∧ W.grownBy wr (Value.ownBlock (.slice ad l.length cap)))
 case atStart => exact ⟨1, l, by go_num, by omega, by omega, by omega, List.Perm.refl _, fun a b x y h1 h2 => by omega, hown, ⟨rfl, rfl, rfl, Nat.le_refl _, fun _ _ _ => rfl⟩⟩
 case round =>
  obtain ⟨i, c, rfl, hi1, hi2, hg1, hpm, HO, hwn, hgr⟩ := hrel
  by_cases hlt : i < l.length
  ·have hltz : (i : Int) < (l.length : Int) := by omega
   have hadf : ∃ g, ad = some ⟨g, 0, none⟩ := by
    rcases hown.2 with ⟨h1, h2⟩ | ⟨g, cap, cur, h1, _⟩
    ·omega
    ·cases h1; exact ⟨g, rfl⟩
   obtain ⟨g, rfl⟩ := hadf
   go_wp2
   go_loopg [9] i (fun g2 vj wr2 => ∃ (j : Nat) (d : List Tm), vj = .int .i64 j ∧ j ≤ i ∧ j ≤ g2 ∧ d.Perm l ∧ Hid (ordB d i j) ∧ wr2.ownsRow w0.heap.size 141 2 (.slice (some ⟨g, 0, none⟩) l.length cap) l.length (tcs d) ∧ W.grownBy wr2 (some g))
   case atStart => exact ⟨i, c, rfl, Nat.le_refl _, Nat.le_refl _, hpm, ordB_of HO.out, hwn, hgr⟩
   case round =>
    clear hwn hgr hpm HO
    obtain ⟨j, d, rfl, hji, hg2, hpd, HI, hwd, hgd⟩ := hrel
    have hdl : d.length = l.length := hpd.length_eq
    by_cases hj0 : 0 < j
    ·obtain ⟨jp, rfl⟩ : ∃ jp, j = jp + 1 := ⟨j - 1, by omega⟩
     have hjz : decide ((jp : Int) + 1 > 0) = true := decide_eq_true (by omega)
     have hjz2 : (0 : Int) < (jp : Int) + 1 := by omega
     have hp : d[jp]? = some (d[jp]'(by omega)) := List.getElem?_eq_getElem (by omega)
     generalize d[jp]'(by omega) = p at hp
     have hq : d[jp + 1]? = some (d[jp + 1]'(by omega)) := List.getElem?_eq_getElem (by omega)
     generalize d[jp + 1]'(by omega) = q at hq
     have hpb := HL.out p (hpd.mem_iff.1 (List.mem_of_getElem? hp))
     have hqb := HL.out q (hpd.mem_iff.1 (List.mem_of_getElem? hq))
     have hLW : ∀ w', W.grownBy w' (some g) → Tryz.L w' := fun w' h => Tryz.hL w0 _ hL0 (hbw.grown h hbw.size (fun k hk => by cases hk; exact (hown.lt g rfl).1))
     obtain ⟨cp, cp'⟩ := tcs_at hp
     obtain ⟨cq, cq'⟩ := tcs_at hq
     rw [← hwd.cellAt (jp * 2) (by omega)] at cp
     rw [← hwd.cellAt (jp * 2 + 1) (by omega)] at cp'
     rw [← hwd.cellAt ((jp + 1) * 2) (by omega)] at cq
     rw [← hwd.cellAt ((jp + 1) * 2 + 1) (by omega)] at cq'
     have hwp : IntKind.i64.wrap (jp : Int) = (jp : Int) := by rw [IntKind.wrap_i64]; omega
     have jz : (jp : Int) + 1 < (l.length : Int) := by omega
     have jz1 : (jp : Int) < (l.length : Int) := by omega
     have p0 : (0 : Int) ≤ (jp : Int) + 1 := by omega
     have e0 : ((jp : Int) + 1).toNat = jp + 1 := by omega
     have hGd : W.grownBy wr.drew (some g) := ⟨hgd.os, hgd.tape, hgd.output, hgd.size, hgd.block⟩
     have HW : Hid (wr.drew.ownsRow w0.heap.size 141 2 (.slice (some ⟨g, 0, none⟩) l.length cap) l.length (tcs d) ∧ W.grownBy wr.drew (some g)) := ⟨hwd.drew, hGd⟩
     have HX : Hid (d.Perm l ∧ d[jp]? = some p ∧ d[jp + 1]? = some q) := ⟨hpd, hp, hq⟩
     have hcm := Tryz.scmp_calls q p hqb hpb wr.drew (hLW _ hGd)
     clear hwd hgd hGd hpd hp hq
     by_cases hc : q.2 < p.2
     ·have ec : decide (cmpZ (q.2 : Int) (p.2 : Int) < 0) = true := by unfold cmpZ; simp; omega
      go_wp2_with fail
      go_region_held3 (fun w' => w'.cell? ⟨g, jp * 2, none⟩ = some (.string ⟨(rt p.1).toArray⟩) ∧ w'.cell? ⟨g, jp * 2 + 1, none⟩ = some (.string ⟨(tz (p.2 : Int)).toArray⟩) ∧ w'.cell? ⟨g, (jp + 1) * 2, none⟩ = some (.string ⟨(rt q.1).toArray⟩) ∧ w'.cell? ⟨g, (jp + 1) * 2 + 1, none⟩ = some (.string ⟨(tz (q.2 : Int)).toArray⟩)) (go_keep)
       (first
        | (go_at_call 126; refine Calls.mono hcm ?_; rintro e W5 ⟨rfl, hb5⟩; have hw5 := HW.out.1.kept (gb_below (r := none) hb5) (.inr (by simp [Value.ownBlock])); have d1 := (hw5.cellAt (jp * 2) (by omega)).trans (tcs_at HX.out.2.1).1; have d2 := (hw5.cellAt (jp * 2 + 1) (by omega)).trans (tcs_at HX.out.2.1).2; have d3 := (hw5.cellAt ((jp + 1) * 2) (by omega)).trans (tcs_at HX.out.2.2).1; have d4 := (hw5.cellAt ((jp + 1) * 2 + 1) (by omega)).trans (tcs_at HX.out.2.2).2; have hG5 := gb_trans HW.out.2 (gb_below (r := some g) hb5); clear hb5))
      all_goals clear hcm cp cp' cq cq'
      all_goals go_wp2_with fail
      have f1 := hw5.frozenAt (jp * 2)
      have f2 := hw5.frozenAt (jp * 2 + 1)
      have f3 := hw5.frozenAt ((jp + 1) * 2)
      have f4 := hw5.frozenAt ((jp + 1) * 2 + 1)
      have n1 : (jp + 1) * 2 ≠ jp * 2 := by omega
      have n2 : (jp + 1) * 2 + 1 ≠ jp * 2 := by omega
      have n3 : (jp + 1) * 2 ≠ jp * 2 + 1 := by omega
      have n4 : (jp + 1) * 2 + 1 ≠ jp * 2 + 1 := by omega
      go_big_region_o
      all_goals go_wp2
      go_roundg jp
      case measure => omega
      case rel =>
       have st1 := hw5.drew.stored ((jp + 1) * 2) (.string ⟨(rt p.1).toArray⟩)
       have st2 := st1.1.stored ((jp + 1) * 2 + 1) (.string ⟨(tz (p.2 : Int)).toArray⟩)
       have g2 := gb_trans st1.2 st2.2
       rw [tcs_set d (jp + 1) p (by omega)] at st2
       have st3 := st2.1.stored (jp * 2) (.string ⟨(rt q.1).toArray⟩)
       have st4 := st3.1.stored (jp * 2 + 1) (.string ⟨(tz (q.2 : Int)).toArray⟩)
       have g4 := gb_trans g2 (gb_trans st3.2 st4.2)
       rw [tcs_set (d.set (jp + 1) p) jp q (by rw [List.length_set]; omega)] at st4
       refine ⟨jp, (d.set (jp + 1) p).set jp q, by first | rfl | go_num | (congr 1; omega), by omega, Nat.le_refl _, (swap_perm HX.out.2.1 HX.out.2.2).trans HX.out.1, (show Hid _ from ordB_swap HI.out hji HX.out.2.1 HX.out.2.2 hc), st4.1, gb_trans hG5 ?_⟩
       exact ⟨g4.os, g4.tape, g4.output, g4.size, g4.block⟩
     ·have ec : decide (cmpZ (q.2 : Int) (p.2 : Int) < 0) = false := by unfold cmpZ; simp; omega
      go_wp2_with fail
      go_region_held3 (fun w' => w'.cell? ⟨g, jp * 2, none⟩ = some (.string ⟨(rt p.1).toArray⟩) ∧ w'.cell? ⟨g, jp * 2 + 1, none⟩ = some (.string ⟨(tz (p.2 : Int)).toArray⟩) ∧ w'.cell? ⟨g, (jp + 1) * 2, none⟩ = some (.string ⟨(rt q.1).toArray⟩) ∧ w'.cell? ⟨g, (jp + 1) * 2 + 1, none⟩ = some (.string ⟨(tz (q.2 : Int)).toArray⟩)) (go_keep)
       (first
        | (go_at_call 126; refine Calls.mono hcm ?_; rintro e W5 ⟨rfl, hb5⟩; have hw5 := HW.out.1.kept (gb_below (r := none) hb5) (.inr (by simp [Value.ownBlock])); have d1 := (hw5.cellAt (jp * 2) (by omega)).trans (tcs_at HX.out.2.1).1; have d2 := (hw5.cellAt (jp * 2 + 1) (by omega)).trans (tcs_at HX.out.2.1).2; have d3 := (hw5.cellAt ((jp + 1) * 2) (by omega)).trans (tcs_at HX.out.2.2).1; have d4 := (hw5.cellAt ((jp + 1) * 2 + 1) (by omega)).trans (tcs_at HX.out.2.2).2; have hG5 := gb_trans HW.out.2 (gb_below (r := some g) hb5); clear hb5))
      all_goals clear hcm cp cp' cq cq'
      all_goals go_wp2_with fail
      all_goals go_roundg (l.length - (i + 1))
      case measure => omega
      case rel => exact ⟨i + 1, d, by go_num, by omega, by omega, by omega, HX.out.1, (show Hid _ from ordA_stop HI.out HX.out.2.1 HX.out.2.2 (by omega)), hw5, hG5⟩
    ·obtain rfl : j = 0 := by omega
     have hjz : decide ((0 : Int) > 0) = false := by decide
     have hgd' : W.grownBy wr.drew (some g) := ⟨hgd.os, hgd.tape, hgd.output, hgd.size, hgd.block⟩
     have HW : Hid (wr.drew.ownsRow w0.heap.size 141 2 (.slice (some ⟨g, 0, none⟩) l.length cap) l.length (tcs d) ∧ W.grownBy wr.drew (some g) ∧ d.Perm l) := ⟨hwd.drew, hgd', hpd⟩
     clear hwd hgd hgd' hpd
     go_wp2_with fail
     go_big_region_o
     all_goals go_wp2
     go_roundg (l.length - (i + 1))
     case measure => omega
     case rel => exact ⟨i + 1, d, by go_num, by omega, by omega, by omega, HW.out.2.2, (show Hid _ from ordA_zero HI.out), HW.out.1, HW.out.2.1⟩
  ·have hltz : ¬ (i : Int) < (l.length : Int) := by omega
   have hso : c.Pairwise fun x y => x.2 ≤ y.2 := ordA_sorted fun a b x y h1 h2 => HO.out a b x y h1 (by have := hpm.length_eq; omega)
   clear HO
   go_wp2
   go_end0
   exact ⟨rfl, c, hpm, hso, hwn, hgr, hbw.grown hgr hbw.size (fun k hk => (hown.lt k hk).1)⟩
end Go.Proofs

/-
 SURD: slices.DeleteFunc of the terms with factor zero, in the plain walk. Own work.
-/
namespace Go.Proofs
open Go Go.Pi Go.RowKit Go.Shelf Go.Ar

theorem ixA_ge {α : Type} {p : α → Bool} {l : List α} {k : Nat} (h : ¬0 ≤ ixA p l k) : ∀ x ∈ l, p x = false := by
 rw [ixA_any] at h
 intro x hx
 cases hp : p x with
 | false => rfl
 | true => exact absurd (List.any_eq_true.2 ⟨x, hx, hp⟩) h
theorem ixA_small {α : Type} {p : α → Bool} : ∀ {l : List α} {k : Nat}, ixA p l k = -1 ∨ ((k : Int) ≤ ixA p l k ∧ ixA p l k < k + l.length)
 | [], k => .inl rfl
 | a :: l, k => by
   have ih := ixA_small (p := p) (l := l) (k := k + 1)
   simp only [ixA, List.length_cons]
   split
   ·right; omega
   ·rcases ih with h | h
    ·exact .inl h
    ·right; omega

theorem ixA_take {p : Tm → Bool} : ∀ (l : List Tm) (k : Nat), 0 ≤ ixA p l k → ∃ i, i < l.length ∧ ixA p l k = (k + i : Nat) ∧ (l.take (i + 1)).filter (fun x => !p x) = l.take i
 | [], k, h => absurd h (by simp [ixA])
 | x :: l, k, h => by
   by_cases hx : p x = true
   ·exact ⟨0, by simp, by simp [ixA, hx], by simp [hx]⟩
   ·have e : ixA p (x :: l) k = ixA p l (k + 1) := by simp [ixA, hx]
    rw [e] at h
    obtain ⟨i, h1, h2, h3⟩ := ixA_take l (k + 1) h
    refine ⟨i + 1, by simp; omega, by rw [e, h2]; congr 1; omega, ?_⟩
    rw [List.take_succ_cons, List.filter_cons_of_pos (by simpa using hx), h3, List.take_succ_cons]

theorem Tryz.szero (x : Tm) (hx : rd x.1 ≤ 2000) : Con Tryz.prog Tryz.L 124 ([.agg (tD x)] ++ []) (.bool (decide (x.1 = 0))) := by
 refine rule124 Tryz.hL rfl rfl rfl ?_
 simp only [pc124, rs124, oU, oC, tD, List.append_nil, evX, evY, evZ, forall_const, implies_true, initE, stepF, D.clean, mvF, moF, tkF, shF, ariF, ciF, catF, scF, ebF, eqF, eqOk, eqPr, enF, notF, ngF, cvF, csF, csbF, lenF, lenSF, ixF, iaF, PX.slot, iaAF, faF, ldF, D.mem, stF, bxF, mkSF, boundF, fldF, ixAF, mmF2, D.plain, D.isPure, optAll, D.dull, callVF, splice, D.cells, D.one, sets, resT, D.flat, D.flat0, D.simple, Nat.reduceBNe, Nat.reduceLT, reduceIte, Nat.reduceEqDiff, Nat.reduceAdd, Nat.reduceMul, Nat.reduceSub, Nat.reduceLeDiff, Int.reduceToNat, Int.reduceLT, Int.reduceLE, Int.reduceEq, Int.reduceNeg, Int.reduceSub, Int.reduceAdd, Int.reduceMul, stG_own]
 rw [rt_zero, ← dB_dec]
/-- an own row read as data -/
theorem rep_ownS {W : World} {S : Nat → Nat → Prop} {base e : Nat} {v : Value} {l : List Tm} (h : W.ownsRow base e 2 v l.length (tcs l)) (hl : ∀ y ∈ l, rd y.1 ≤ 2000 ∧ dl (y.2 : Int) ≤ 200) (hS : ∀ g j, base ≤ g → g < W.heap.size → S g j) : Rep S W (sg l) v := by
 have hr : ∀ (i : Nat) (d : D) (u : Value), (tms l)[i]? = some d → (tcs l)[i]? = some u → Rep S W d u := by
  clear h
  induction l with
  | nil => intro i d u hd; simp [rows] at hd
  | cons x l ih =>
    obtain ⟨h1, h2⟩ := hl x (List.mem_cons_self ..)
    intro i d u hd hu
    match i with
    | 0 => cases hd; cases hu; exact .str _ (by have := rt_len x.1; unfold maxLen; omega)
    | 1 => cases hd; cases hu; exact .str _ (by have := tz_dl (x.2 : Int); unfold maxLen; omega)
    | i + 2 => exact ih (fun y hy => hl y (List.mem_cons_of_mem _ hy)) i d u hd hu
 have h1 : ∀ d ∈ tms l, d.one = true := by
  intro d hd
  obtain ⟨x, _, hx⟩ := List.mem_flatMap.1 hd
  simp only [tD, List.mem_cons, List.not_mem_nil, or_false] at hx
  rcases hx with rfl | rfl <;> rfl
 rcases h.2 with ⟨rfl, h0⟩ | ⟨g, cap, cur, rfl, hbg, hg, hn, hc, _, _⟩
 ·obtain rfl : l = [] := List.length_eq_zero_iff.1 h0
  exact .sl0 none 0 (Nat.zero_le _)
 ·refine .sl l.length (tms l) g 0 cap (tcs l) (by rw [rows_length tD_len, tcs_len]) h1 hn hc (fun i u hu => ⟨hS g _ hbg (Array.getElem?_eq_some_iff.1 hg).1, ?_⟩) hr
  have hlt := (List.getElem?_eq_some_iff.1 hu).1
  rw [tcs_len] at hlt
  rw [Nat.zero_add, h.cellAt i hlt]; exact hu

theorem rep_own {W : World} {base e : Nat} {v : Value} {l : List Tm} (h : W.ownsRow base e 2 v l.length (tcs l)) (hl : ∀ y ∈ l, rd y.1 ≤ 2000 ∧ dl (y.2 : Int) ≤ 200) : Rep (fun b _ => b < W.heap.size) W (sg l) v := rep_ownS h hl fun _ _ _ h => h

/-- clear(s[i:]) of an own row -/
theorem run_clear_row {P : Program} {w : World} {t e base n cap g i : Nat} {xs : List Value} {z : Value} (ht : P.underlying t = some (.slice e)) (hv : ∀ w, (zeroValue e).run P w = .ok z w) (hz : z.cells.size = 2) (hz1 : ∀ u ∈ z.cells, u.oneCell' = true)
  (h : w.ownsRow base e 2 (.slice (some ⟨g, 0, none⟩) n cap) n xs) (hi : i < n) :
  ∃ w', (∀ ty, (Builtin.clear_ #[t] ty #[.slice (some ⟨g, i * 2, none⟩) (n - i) (cap - i)]).run P w = .ok (.tuple #[]) w') ∧ w'.ownsRow base e 2 (.slice (some ⟨g, 0, none⟩) i cap) i (xs.take (i * 2)) ∧ w.grownBy w' (some g) := by
 have hxl := h.1
 rcases h.2 with ⟨h1, _⟩ | ⟨g', cap', cur, h1, hbg, hg, hnc, hcm, hcs, htk⟩
 ·simp at h1
 ·simp only [Value.slice.injEq, Option.some.injEq, Addr.mk.injEq, and_true, true_and] at h1
  obtain ⟨rfl, rfl⟩ := h1
  have hzs : (Builtin.zeroCells z.cells (n - i)).size = (n - i) * 2 := by rw [size_zeroCells, hz]
  have hfit : i * 2 + 0 + (Builtin.zeroCells z.cells (n - i)).toList.length ≤ cur.size := by rw [Array.length_toList, hzs, hcs]; omega
  have hone : ∀ u ∈ (Builtin.zeroCells z.cells (n - i)).toList, u.oneCell' = true := fun u hu => by
   obtain ⟨q, hq⟩ := List.getElem?_of_mem hu
   simp [Builtin.zeroCells, Array.getElem?_ofFn] at hq
   obtain ⟨hq1, _, rfl⟩ := hq
   have hlt : hq1 % z.cells.size < z.cells.size := Nat.mod_lt _ (by omega)
   rw [getElem!_pos z.cells _ hlt]
   exact hz1 _ (Array.getElem_mem hlt)
  have hex := run_storeCells_at P g (i * 2) e (Builtin.zeroCells z.cells (n - i)).toList 0 cur w hg hfit hone
  simp only [Nat.add_zero] at hex
  generalize hnew : (cur.toList.take (i * 2) ++ (Builtin.zeroCells z.cells (n - i)).toList ++ cur.toList.drop (i * 2 + (Builtin.zeroCells z.cells (n - i)).toList.length)).toArray = arr at hex
  have hnl : arr.toList = cur.toList.take (i * 2) ++ ((Builtin.zeroCells z.cells (n - i)).toList ++ cur.toList.drop (i * 2 + (Builtin.zeroCells z.cells (n - i)).toList.length)) := by rw [← hnew]; simp
  have e1 : (cur.toList.take (i * 2)).length = i * 2 := by rw [List.length_take, Array.length_toList]; omega
  refine ⟨w.setRow g arr, fun ty => ?_, ⟨?_, .inr ⟨g, cap, arr, rfl, hbg, setRow_heap w g cur arr e (0, 0) hg, by omega, hcm, ?_, ?_⟩⟩, ⟨rfl, rfl, rfl, by simp, fun k _ hk => setRow_other w g k arr (fun e => hk (by simp [e]))⟩⟩
  ·obtain ⟨q, hq⟩ : ∃ q, n - i = q + 1 := ⟨n - i - 1, by omega⟩
   rw [hq] at hex ⊢
   simp [Builtin.clear_, run_underlying ht, hv, hex]
  ·rw [List.length_take]; omega
  ·have := congrArg List.length hnl
   rw [List.length_append, List.length_append, e1, List.length_drop, Array.length_toList, Array.length_toList, Array.length_toList] at this
   simp only [Array.length_toList] at hfit
   omega
  ·rw [hnl, List.take_left' e1, ← htk, List.take_take, Nat.min_eq_left (by omega)]

set_option maxRecDepth 100000 in
set_option maxHeartbeats 4000000 in
theorem Tryz.sdeleteO (w0 W : World) (v : Value) (l : List Tm) (hL0 : Tryz.L w0) (hbw : Below w0.heap.size w0 W) (hown : W.ownsRow w0.heap.size 141 2 v l.length (tcs l)) (hlen : l.length ≤ 100)
  (hl : ∀ y ∈ l, rd y.1 ≤ 2000 ∧ dl (y.2 : Int) ≤ 200) :
  Calls Tryz.prog 123 #[v, .func (.func 124) #[] #[]] W fun e W' => ∃ v', e = .returned v' ∧
   W'.ownsRow w0.heap.size 141 2 v' (l.filter fun x => !decide (x.1 = 0)).length (tcs (l.filter fun x => !decide (x.1 = 0))) ∧ W.grownBy W' v.ownBlock ∧ Below w0.heap.size w0 W' := by
 have mixed : Tryz.prog.follows .mixedOrders = true := by kernel_rfl
 have t0 := Tryz.underlying95; have a0 := Tryz.isAgg95; have z0 := Tryz.sizeOf95; have v0 := Tryz.zeroValue95; have u0 := run_underlying Tryz.underlying95
 have t1 := Tryz.underlying141; have a1 := Tryz.isAgg141; have z1 := Tryz.sizeOf141; have v1 := Tryz.zeroValue141; have u1 := run_underlying Tryz.underlying141
 have t3 := Tryz.underlying4; have a3 := Tryz.isAgg4; have z3 := Tryz.sizeOf4; have v3 := Tryz.zeroValue4; have u3 := run_underlying Tryz.underlying4
 have t4 := Tryz.underlying3; have a4 := Tryz.isAgg3; have z4 := Tryz.sizeOf3; have v4 := Tryz.zeroValue3; have u4 := run_underlying Tryz.underlying3
 have vsl : ∃ ad cap, v = .slice ad l.length cap := by
  rcases hown.2 with ⟨h1, h2⟩ | ⟨g, cap, cur, h1, _⟩
  ·exact ⟨none, 0, by rw [h1, h2]⟩
  ·exact ⟨_, _, h1⟩
 obtain ⟨ad, cap, rfl⟩ := vsl
 have HL : Hid (∀ y ∈ l, rd y.1 ≤ 2000 ∧ dl (y.2 : Int) ≤ 200) := hl
 have hci := (Tryz.sindex (f := 124) (caps := []) (fun x => decide (x.1 = 0)) l (by omega) (fun x hx => Tryz.szero x (hl x hx).1)).2 (fun b _ => b < W.heap.size) W [.slice ad l.length cap, .func (.func 124) #[] #[]] (fun b j h => h) (Tryz.hL w0 W hL0 hbw) (Reps.cons (rep_own hown hl) (Reps.cons (.clo _ [] [] rfl (by simp)) .nil))
 clear hl
 by_cases hi : 0 ≤ ixA (fun x : Tm => decide (x.1 = 0)) l 0
 ·obtain ⟨i0, q1, q2, q3⟩ := ixA_take (p := fun x => decide (x.1 = 0)) l 0 hi
  have q2 : ixA (fun x : Tm => decide (x.1 = 0)) l 0 = (i0 : Nat) := by rw [q2, Nat.zero_add]
  rw [q2] at hci
  have hadf : ∃ g, ad = some ⟨g, 0, none⟩ := by
   rcases hown.2 with ⟨h1, h2⟩ | ⟨g, cap, cur, h1, _⟩
   ·omega
   ·cases h1; exact ⟨g, rfl⟩
  obtain ⟨g, rfl⟩ := hadf
  have hne1 : ((i0 : Int) == -1) = false := beq_eq_false_iff_ne.2 (by omega)
  have hcap : l.length ≤ cap := by
   rcases hown.2 with ⟨h1, h2⟩ | ⟨g', cap', cur, h1, _, _, h2, _⟩
   ·omega
   ·cases h1; exact h2
  clear hi
  go_enter Tryz.func123, Tryz.ntmps123
  go_wp2_with (go_at_call 146; refine Calls.mono hci ?_; rintro e W1 ⟨v1, rfl, hb1, hr1⟩; obtain rfl : v1 = .int .i64 (i0 : Nat) := (by cases hr1; rfl); clear hr1)
  have hG1 : W.grownBy W1 (some g) := gb_below hb1
  have hw1 := hown.kept (gb_below (r := none) hb1) (.inr (by simp [Value.ownBlock]))
  clear hb1 hci
  go_loopg [5, 6, 7] l.length (fun gg s5 s6 _ wr => ∃ (i j : Nat) (cur : List Tm), s5 = .int .i64 i ∧ s6 = .int .i64 j ∧ i < j ∧ j ≤ l.length ∧ l.length ≤ gg + j ∧ cur.length = l.length ∧ Hid (cur.take i = (l.take j).filter (fun x => !decide (x.1 = 0))) ∧ Hid (cur.drop j = l.drop j) ∧
    wr.ownsRow w0.heap.size 141 2 (.slice (some ⟨g, 0, none⟩) l.length cap) l.length (tcs cur) ∧ W.grownBy wr (some g))
  case atStart => exact ⟨i0, i0 + 1, l, rfl, by go_num, by omega, by omega, by omega, rfl, q3.symm, rfl, hw1, hG1⟩
  case round =>
   clear hw1 hG1
   obtain ⟨i, j, cur, rfl, rfl, hij, hj, hgg, hcl, HT, HD, hwr, hgr⟩ := hrel
   have hLW : ∀ w', W.grownBy w' (some g) → Tryz.L w' := fun w' h => Tryz.hL w0 _ hL0 (hbw.grown h hbw.size (fun k hk => by cases hk; exact (hown.lt g rfl).1))
   have hgl : g < W.heap.size := (hown.lt g rfl).2
   have hgw : W.heap.size ≤ wr.heap.size := hgr.size
   by_cases hlt : j < l.length
   ·have hltz : (j : Int) < (l.length : Int) := by omega
    have hx : l[j]? = some (l[j]'hlt) := List.getElem?_eq_getElem hlt
    have htk : l.take (j + 1) = l.take j ++ [l[j]'hlt] := List.take_succ_eq_append_getElem hlt
    generalize l[j]'hlt = x at hx htk
    have TK : Hid (l.take (j + 1) = l.take j ++ [x]) := htk
    have hx2 := HL.out x (List.mem_of_getElem? hx)
    have hcx : cur[j]? = some x := by
     have e1 := congrArg (fun q : List Tm => q[0]?) HD.out
     simp only [List.getElem?_drop, Nat.add_zero] at e1
     rw [e1]; exact hx
    have hci2 : cur[i]? = some (cur[i]'(by omega)) := List.getElem?_eq_getElem (by omega)
    generalize cur[i]'(by omega) = old at hci2
    obtain ⟨cA, cB⟩ := tcs_at hcx
    rw [← hwr.cellAt (j * 2) (by omega)] at cA
    rw [← hwr.cellAt (j * 2 + 1) (by omega)] at cB
    have hU : (wr.alloc (.cells #[.string ⟨(rt x.1).toArray⟩, .string ⟨(tz (x.2 : Int)).toArray⟩] 141)).heap[wr.heap.size]? = some (.cells #[.string ⟨(rt x.1).toArray⟩, .string ⟨(tz (x.2 : Int)).toArray⟩] 141 (0, 0)) := World.alloc_heap_new _ _
    have hGa : W.grownBy (wr.alloc (.cells #[.string ⟨(rt x.1).toArray⟩, .string ⟨(tz (x.2 : Int)).toArray⟩] 141)) (some g) := gb_trans hgr (World.grownBy_alloc _ _ _)
    have hwa := hwr.alloc (.cells #[.string ⟨(rt x.1).toArray⟩, .string ⟨(tz (x.2 : Int)).toArray⟩] 141)
    have hdel := (Tryz.szero x hx2.1).2 (fun _ _ => False) (wr.alloc (.cells #[.string ⟨(rt x.1).toArray⟩, .string ⟨(tz (x.2 : Int)).toArray⟩] 141)) [.agg (stc x).toArray] (fun _ _ h => h.elim) (hLW _ hGa) (Reps.cons (rep_tm _ _ x hx2.1 hx2.2) .nil)
    have HW : Hid (wr.ownsRow w0.heap.size 141 2 (.slice (some ⟨g, 0, none⟩) l.length cap) l.length (tcs cur)) := hwr
    have hgi : i * 2 + 1 < l.length * 2 := by omega
    have hgne : g ≠ wr.heap.size := by omega
    have hgne' : wr.heap.size ≠ g := by omega
    clear hwr htk hx
    cases hq : decide (x.1 = 0) with
    | false =>
      rw [hq] at hdel
      go_wp2_with (go_at_call 124; refine Calls.mono hdel ?_; rintro e W5 ⟨v5, rfl, hb5, hr5⟩; obtain rfl : v5 = .bool false := (by cases hr5; rfl); clear hr5; have hU5 := below_heap hb5 hU; obtain ⟨cu5, cu5'⟩ := cells2 hU5; have hG5 := gb_trans hGa (gb_below (r := some g) hb5); have hw5 := hwa.kept (gb_below (r := none) hb5) (.inr (by simp [Value.ownBlock])); have f5 := hw5.frozenAt (i * 2); have f5' := hw5.frozenAt (i * 2 + 1); have d5 := (hw5.cellAt (i * 2) (by omega)).trans (tcs_at hci2).1; have d5' := (hw5.cellAt (i * 2 + 1) (by omega)).trans (tcs_at hci2).2; clear hb5)
      go_roundg (l.length - (j + 1))
      case measure => omega
      case rel =>
       have st1 := hw5.stored (i * 2) (.string ⟨(rt x.1).toArray⟩)
       have st2 := st1.1.stored (i * 2 + 1) (.string ⟨(tz (x.2 : Int)).toArray⟩)
       rw [tcs_set cur i x (by omega)] at st2
       refine ⟨i + 1, j + 1, cur.set i x, by go_num, by go_num, by omega, by omega, by omega, by rw [List.length_set]; exact hcl, (show Hid _ from ?_), (show Hid _ from ?_), st2.1, gb_trans (gb_trans hG5 st1.2) st2.2⟩
       ·have e1 : (cur.set i x).take (i + 1) = cur.take i ++ [x] := by
         rw [List.take_succ_eq_append_getElem (by rw [List.length_set]; omega), List.take_set_of_le (Nat.le_refl _), List.getElem_set_self]
        show _ = _
        rw [e1, HT.out, TK.out, List.filter_append, List.filter_cons_of_pos (by simp [hq]), List.filter_nil]
       ·show _ = _
        rw [List.drop_set_of_lt (by omega), ← List.drop_drop, HD.out, List.drop_drop]
    | true =>
      rw [hq] at hdel
      go_wp2_with (go_at_call 124; refine Calls.mono hdel ?_; rintro e W5 ⟨v5, rfl, hb5, hr5⟩; obtain rfl : v5 = .bool true := (by cases hr5; rfl); clear hr5; have hG5 := gb_trans hGa (gb_below (r := some g) hb5); have hw5 := hwa.kept (gb_below (r := none) hb5) (.inr (by simp [Value.ownBlock])); clear hb5)
      go_roundg (l.length - (j + 1))
      case measure => omega
      case rel =>
       refine ⟨i, j + 1, cur, rfl, by go_num, by omega, by omega, by omega, hcl, (show Hid _ from ?_), (show Hid _ from ?_), hw5, hG5⟩
       ·show _ = _
        rw [HT.out, TK.out, List.filter_append, List.filter_cons_of_neg (by simp [hq]), List.filter_nil, List.append_nil]
       ·show _ = _
        rw [← List.drop_drop, HD.out, List.drop_drop]
   ·obtain rfl : j = l.length := by omega
    have hltz : ¬ (l.length : Int) < (l.length : Int) := by omega
    obtain ⟨w2, hcl2, hw2, hg2⟩ := run_clear_row t0 v1 rfl (by simp [Value.cells, Value.oneCell']) hwr hij
    have htt := HT.out
    rw [List.take_length] at htt
    have hil : (l.filter fun x => !decide (x.1 = 0)).length = i := by rw [← htt, List.length_take]; omega
    have HIL : Hid ((l.filter fun x => !decide (x.1 = 0)).length = i) := hil
    clear hil
    have e1 : (tcs cur).take (i * 2) = tcs (l.filter fun x => !decide (x.1 = 0)) := by
     rw [← htt]
     conv => lhs; rw [← List.take_append_drop i cur, tcs_app]
     rw [List.take_left' (by rw [tcs_len, List.length_take]; omega)]
    rw [e1] at hw2
    have hne : ¬ (cap = i) := by omega
    clear hwr HT HD htt e1
    go_wp2
    go_ret
    exact ⟨_, rfl, by rw [HIL.out]; exact hw2, gb_trans hgr hg2, hbw.grown (gb_trans hgr hg2) hbw.size (fun k hk => by cases hk; exact (hown.lt g rfl).1)⟩
 ·have hall := ixA_ge (p := fun x : Tm => decide (x.1 = 0)) (l := l) (k := 0) hi
  have hf : l.filter (fun x => !decide (x.1 = 0)) = l := List.filter_eq_self.2 fun x hx => by rw [hall x hx]; rfl
  have q2 : ixA (fun x : Tm => decide (x.1 = 0)) l 0 = -1 := by
   rcases ixA_small (p := fun x : Tm => decide (x.1 = 0)) (l := l) (k := 0) with h | h
   ·exact h
   ·exact absurd (by have := h.1; omega) hi
  rw [q2] at hci
  rw [hf]
  clear hall hf hi
  go_enter Tryz.func123, Tryz.ntmps123
  go_wp2_with (go_at_call 146; refine Calls.mono hci ?_; rintro e W1 ⟨v1, rfl, hb1, hr1⟩; obtain rfl : v1 = .int .i64 (-1) := (by cases hr1; rfl); clear hr1)
  go_ret
  exact ⟨_, by simp, hown.kept (gb_below (r := none) hb1) (by cases ad <;> simp [Value.ownBlock]), gb_below hb1, hbw.grown (gb_below (r := none) hb1) hbw.size (fun k hk => by cases hk)⟩
end Go.Proofs

/-
 SURD: slices.SortFunc of at most 12 terms. Own work.
-/
namespace Go.Proofs
open Go Go.Pi Go.RowKit Go.Shelf Go.Ar

set_option maxRecDepth 100000 in
set_option maxHeartbeats 4000000 in
theorem Tryz.sortLen (n : Nat) (h : n ≤ 12) (W : World) : Calls Tryz.prog 148 #[.int .u64 n] W fun e W' => (∃ k : Int, e = .returned (.int .i64 k)) ∧ W' = W := by
 have mixed : Tryz.prog.follows .mixedOrders = true := by kernel_rfl
 have hb := Tryz.bits_Len64 (n : Int) W (by omega) (by omega)
 have hwr : IntKind.u64.wrap (n : Int) = (n : Int) := by rw [IntKind.wrap_u64]; omega
 have t4 := Tryz.underlying205; have t5 := Tryz.underlying170; have t6 := Tryz.underlying3
 go_enter Tryz.func148, Tryz.ntmps148
 go_wp2_with (go_at_call 170; refine Calls.mono hb ?_; rintro e W1 ⟨rfl, rfl⟩)
 go_ret
 exact ⟨⟨_, rfl⟩, rfl⟩

set_option maxRecDepth 100000 in
set_option maxHeartbeats 4000000 in
theorem Tryz.spdq (w0 W : World) (v : Value) (l : List Tm) (k : Int) (hL0 : Tryz.L w0) (hbw : Below w0.heap.size w0 W) (hown : W.ownsRow w0.heap.size 141 2 v l.length (tcs l)) (hlen : l.length ≤ 12)
  (hl : ∀ y ∈ l, rd y.1 ≤ 2000 ∧ dl (y.2 : Int) ≤ 200) :
  Calls Tryz.prog 147 #[v, .int .i64 0, .int .i64 l.length, .int .i64 k, .func (.func 126) #[] #[]] W fun e W' => e = .returned (.tuple #[]) ∧
   ∃ r : List Tm, r.Perm l ∧ (r.Pairwise fun x y => x.2 ≤ y.2) ∧ W'.ownsRow w0.heap.size 141 2 v l.length (tcs r) ∧ W.grownBy W' v.ownBlock ∧ Below w0.heap.size w0 W' := by
 have mixed : Tryz.prog.follows .mixedOrders = true := by kernel_rfl
 have t0 := Tryz.underlying94
 have t3 := Tryz.underlying4; have t4 := Tryz.underlying3
 have hi := Tryz.sinsertion w0 W v l hL0 hbw hown hlen hl
 have hle : (l.length : Int) ≤ 12 := by omega
 have hwr : IntKind.i64.wrap (l.length : Int) = (l.length : Int) := by rw [IntKind.wrap_i64]; omega
 have vsl : ∃ ad cap, v = .slice ad l.length cap := by
  rcases hown.2 with ⟨h1, h2⟩ | ⟨g, cap, cur, h1, _⟩
  ·exact ⟨none, 0, by rw [h1, h2]⟩
  ·exact ⟨_, _, h1⟩
 obtain ⟨ad, cap, rfl⟩ := vsl
 clear hl hown
 go_enter Tryz.func147, Tryz.ntmps147
 go_wp2
 refine wp_loop_rounds 1 ?_
 rw [rounds_succ]
 go_wp2_with (go_at_call 161; refine Calls.mono hi ?_; rintro e W1 ⟨rfl, h1⟩)
 (try simp only [Exit.inBlock, Exit.then]); refine bodyPost_ret (results_none rfl _ _ _) rfl ?_
 exact ⟨rfl, h1⟩

set_option maxRecDepth 100000 in
set_option maxHeartbeats 4000000 in
theorem Tryz.ssort (w0 W : World) (v : Value) (l : List Tm) (hL0 : Tryz.L w0) (hbw : Below w0.heap.size w0 W) (hown : W.ownsRow w0.heap.size 141 2 v l.length (tcs l)) (hlen : l.length ≤ 12)
  (hl : ∀ y ∈ l, rd y.1 ≤ 2000 ∧ dl (y.2 : Int) ≤ 200) :
  Calls Tryz.prog 125 #[v, .func (.func 126) #[] #[]] W fun e W' => e = .returned (.tuple #[]) ∧
   ∃ r : List Tm, r.Perm l ∧ (r.Pairwise fun x y => x.2 ≤ y.2) ∧ W'.ownsRow w0.heap.size 141 2 v l.length (tcs r) ∧ W.grownBy W' v.ownBlock ∧ Below w0.heap.size w0 W' := by
 have mixed : Tryz.prog.follows .mixedOrders = true := by kernel_rfl
 have t0 := Tryz.underlying95; have t1 := Tryz.underlying94
 have t3 := Tryz.underlying205; have t4 := Tryz.underlying3
 have hp := fun k => Tryz.spdq w0 W v l k hL0 hbw hown hlen hl
 have hn := Tryz.sortLen l.length hlen W
 have hwr : IntKind.u64.wrap (l.length : Int) = (l.length : Int) := by rw [IntKind.wrap_u64]; omega
 have vsl : ∃ ad cap, v = .slice ad l.length cap := by
  rcases hown.2 with ⟨h1, h2⟩ | ⟨g, cap, cur, h1, _⟩
  ·exact ⟨none, 0, by rw [h1, h2]⟩
  ·exact ⟨_, _, h1⟩
 obtain ⟨ad, cap, rfl⟩ := vsl
 clear hl hown
 go_enter Tryz.func125, Tryz.ntmps125
 go_wp2_with (first | (go_at_call 148; refine Calls.mono hn ?_; rintro e W1 ⟨⟨k, rfl⟩, rfl⟩) | (go_at_call 147; refine Calls.mono (hp _) ?_; rintro e W2 ⟨rfl, h1⟩))
 go_end0
 exact ⟨rfl, h1⟩
end Go.Proofs

/-
 SURD: sum by hand. Own work.
-/
namespace Go.Proofs
open Go Go.Pi Go.RowKit Go.Shelf Go.Ar

/-- all terms of a list of surds, each times its factor -/
def allT (k : Nat → Rat) : Nat → List (List Tm) → List Tm
 | _, [] => []
 | i, s :: ls => mulT (k i) s ++ allT k (i + 1) ls
theorem allT_app (k : Nat → Rat) : ∀ (l m : List (List Tm)) (i : Nat), allT k i (l ++ m) = allT k i l ++ allT k (i + l.length) m
 | [], m, i => rfl
 | s :: l, m, i => by
   show mulT (k i) s ++ allT k (i + 1) (l ++ m) = mulT (k i) s ++ allT k (i + 1) l ++ _
   rw [allT_app k l m (i + 1), List.append_assoc, List.length_cons, show i + 1 + l.length = i + (l.length + 1) by omega]
theorem allT_take {k : Nat → Rat} {ls : List (List Tm)} {i : Nat} {s : List Tm} (h : ls[i]? = some s) : allT k 0 (ls.take (i + 1)) = allT k 0 (ls.take i) ++ mulT (k i) s := by
 have hi := (List.getElem?_eq_some_iff.1 h).1
 rw [List.take_add_one, h]
 show allT k 0 (ls.take i ++ [s]) = _
 rw [allT_app, List.length_take, Nat.min_eq_left (by omega), Nat.zero_add]
 show _ ++ (mulT (k i) s ++ []) = _
 rw [List.append_nil]
theorem allT_split {k : Nat → Rat} {ls : List (List Tm)} {i : Nat} {s : List Tm} (h : ls[i]? = some s) : ∃ r, allT k 0 ls = allT k 0 (ls.take i) ++ mulT (k i) s ++ r := by
 refine ⟨allT k (0 + (ls.take (i + 1)).length) (ls.drop (i + 1)), ?_⟩
 rw [← allT_take h, ← allT_app, List.take_append_drop]
theorem allT_taken {k : Nat → Rat} {ls : List (List Tm)} {i j : Nat} {s : List Tm} (h : ls[i]? = some s) (hj : j ≤ s.length) : (allT k 0 ls).take ((allT k 0 (ls.take i)).length + j) = allT k 0 (ls.take i) ++ mulT (k i) (s.take j) ∧ (allT k 0 (ls.take i)).length + j ≤ (allT k 0 ls).length := by
 obtain ⟨r, e⟩ := allT_split (k := k) h
 have hm : (mulT (k i) s).length = s.length := by simp [mulT]
 constructor
 ·rw [e, List.append_assoc, List.take_append, List.take_of_length_le (by omega), Nat.add_sub_cancel_left, List.take_append_of_le_length (by omega)]
  simp [mulT, List.map_take]
 ·rw [e]; simp only [List.length_append]; omega
/-- a surd among the arguments -/
theorem rep_sg {S : Nat → Nat → Prop} {W : World} {l : List Tm} {u : Value} (h : Rep S W (sg l) u) : ∃ a cap, u = .slice a l.length cap ∧ ∀ j x, l[j]? = some x → ∃ b o, a = some ⟨b, o, none⟩ ∧
  (S b (o + j * 2) ∧ W.cell? ⟨b, o + j * 2, none⟩ = some (.string ⟨(rt x.1).toArray⟩)) ∧ (S b (o + (j * 2 + 1)) ∧ W.cell? ⟨b, o + (j * 2 + 1), none⟩ = some (.string ⟨(tz (x.2 : Int)).toArray⟩)) := by
 generalize hd : sg l = d at h
 cases h with
 | sl0 a cap hc =>
   simp only [sg, D.sl.injEq] at hd
   have hl : l.length = 0 := hd.1
   obtain rfl : l = [] := List.length_eq_zero_iff.1 hl
   exact ⟨a, cap, rfl, fun j x hx => by simp at hx⟩
 | slN => simp only [sg, D.sl.injEq] at hd; have h2 : (tms l).length = l.length * 2 := rows_length tD_len l; rw [hd.2, hd.1] at h2; simp at h2
 | sl n ds b off cap vs hl h1 hn hc hr hh =>
   simp only [sg, D.sl.injEq] at hd
   obtain ⟨rfl, rfl⟩ := hd
   refine ⟨_, cap, rfl, fun j x hx => ⟨b, off, rfl, ?_, ?_⟩⟩
   ·obtain ⟨r, e0, e1⟩ := tms_drop hx
    have d0 : (tms l)[j * 2]? = some (.str (rt x.1)) := by
     have := congrArg (fun q : List D => q[0]?) e0
     simpa [List.getElem?_drop] using this
    have hlt := (List.getElem?_eq_some_iff.1 d0).1
    have hv : vs[j * 2]? = some (vs[j * 2]'(by omega)) := List.getElem?_eq_getElem (by omega)
    generalize vs[j * 2]'(by omega) = v at hv
    have hrep := hh _ _ _ d0 hv
    cases hrep
    exact hr _ _ hv
   ·obtain ⟨r, e0, e1⟩ := tms_drop hx
    have d0 : (tms l)[j * 2 + 1]? = some (.str (tz (x.2 : Int))) := by
     have := congrArg (fun q : List D => q[0]?) e1
     simpa [List.getElem?_drop] using this
    have hlt := (List.getElem?_eq_some_iff.1 d0).1
    have hv : vs[j * 2 + 1]? = some (vs[j * 2 + 1]'(by omega)) := List.getElem?_eq_getElem (by omega)
    generalize vs[j * 2 + 1]'(by omega) = v at hv
    have hrep := hh _ _ _ d0 hv
    cases hrep
    exact hr _ _ hv
 | _ => cases hd
theorem rep_sgs {S : Nat → Nat → Prop} {W : World} {ls : List (List Tm)} {u : Value} (h : Rep S W (.sl ls.length (ls.map sg)) u) : ∃ a cap, u = .slice a ls.length cap ∧ ∀ i s, ls[i]? = some s → ∃ b o v, a = some ⟨b, o, none⟩ ∧
  S b (o + i) ∧ W.cell? ⟨b, o + i, none⟩ = some v ∧ Rep S W (sg s) v := by
 generalize hd : D.sl ls.length (ls.map sg) = d at h
 cases h with
 | sl0 a cap hc =>
   simp only [D.sl.injEq] at hd
   have hl : ls.length = 0 := hd.1
   obtain rfl : ls = [] := List.length_eq_zero_iff.1 hl
   exact ⟨a, cap, rfl, fun j x hx => by simp at hx⟩
 | slN =>
   simp only [D.sl.injEq] at hd
   have := congrArg List.length hd.2
   rw [List.length_map, hd.1] at this; simp at this
 | sl n ds b off cap vs hl h1 hn hc hr hh =>
   simp only [D.sl.injEq] at hd
   obtain ⟨rfl, rfl⟩ := hd
   refine ⟨_, cap, rfl, fun i s hs => ?_⟩
   have hlt := (List.getElem?_eq_some_iff.1 hs).1
   rw [List.length_map] at hl
   have hv : vs[i]? = some (vs[i]'(by omega)) := List.getElem?_eq_getElem (by omega)
   generalize vs[i]'(by omega) = v at hv
   exact ⟨b, off, v, rfl, (hr _ _ hv).1, (hr _ _ hv).2, hh i (sg s) v (by rw [List.getElem?_map, hs]; rfl) hv⟩
 | _ => cases hd
theorem enters_body {P : Program} {f : FuncId} (h : hasBody P f = true) : ∀ args w, (callFunc f args).run P w = .ok (.enter f args) w := by
 unfold hasBody at h
 split at h
 ·rename_i fn hf
  simp only [Bool.and_eq_true, bne_iff_ne, ne_eq] at h
  obtain ⟨c, hc⟩ := Option.isSome_iff_exists.1 h.1
  exact enters_of hf (by simpa using h.2) hc
 ·cases h

set_option maxRecDepth 100000 in
set_option maxHeartbeats 8000000 in
theorem Tryz.ssum {f : Nat} (k : Nat → Rat) (ls : List (List Tm)) (R : List Tm) (hls : ls.length ≤ 100) (hs : ∀ s ∈ ls, s.length ≤ 100 ∧ ∀ x ∈ s, rd x.1 ≤ 500 ∧ 0 < x.2 ∧ dl (x.2 : Int) ≤ 200)
  (hf : hasBody Tryz.prog f = true) (hk : ∀ i, i < ls.length → rd (k i) ≤ 100 ∧ Con Tryz.prog Tryz.L f [.int .i64 i] (.str (rt (k i))))
  (hacc : ∀ n, n ≤ (allT k 0 ls).length → (((allT k 0 ls).take n).foldl addL []).length ≤ 99 ∧ ∀ y ∈ ((allT k 0 ls).take n).foldl addL [], rd y.1 ≤ 2000 ∧ 0 < y.2 ∧ dl (y.2 : Int) ≤ 200)
  (hfin : (((allT k 0 ls).foldl addL []).filter fun x => !decide (x.1 = 0)).length ≤ 12)
  (hR : ∀ r : List Tm, r.Perm (((allT k 0 ls).foldl addL []).filter fun x => !decide (x.1 = 0)) → (r.Pairwise fun x y => x.2 ≤ y.2) → r = R) :
  Con Tryz.prog Tryz.L 93 [.sl ls.length (ls.map sg), .clo f []] (sg R) := by
 refine ⟨⟨by kernel_rfl, rfl⟩, fun S W vs hS hL hreps => ?_⟩
 obtain ⟨u0, _, rfl, hu0, hreps⟩ := hreps.uncons
 obtain ⟨u1, _, rfl, hu1, hreps⟩ := hreps.uncons
 obtain rfl := List.length_eq_zero_iff.1 hreps.1.symm
 obtain rfl : u1 = .func (.func f) #[] #[] := by
  cases hu1 with
  | clo _ _ vs hl _ =>
    obtain rfl : vs = [] := List.length_eq_zero_iff.1 hl.symm
    rfl
 obtain ⟨ad0, cap0, rfl, hel⟩ := rep_sgs hu0
 clear hreps hu1 hu0
 have eg := enters_body hf
 have mixed : Tryz.prog.follows .mixedOrders = true := by kernel_rfl
 have t0 := Tryz.underlying95; have a0 := Tryz.isAgg95; have z0 := Tryz.sizeOf95; have v0 := Tryz.zeroValue95; have u0 := run_underlying Tryz.underlying95
 have t1 := Tryz.underlying141; have a1 := Tryz.isAgg141; have z1 := Tryz.sizeOf141; have v1 := Tryz.zeroValue141; have u1 := run_underlying Tryz.underlying141
 have t2 := Tryz.underlying93; have a2 := Tryz.isAgg93; have z2 := Tryz.sizeOf93; have v2 := Tryz.zeroValue93; have u2 := run_underlying Tryz.underlying93
 have t4 := Tryz.underlying3; have a4 := Tryz.isAgg3; have z4 := Tryz.sizeOf3; have v4 := Tryz.zeroValue3; have u4 := run_underlying Tryz.underlying3
 have t6 := Tryz.underlying22; have a6 := Tryz.isAgg22; have z6 := Tryz.sizeOf22; have v6 := Tryz.zeroValue22; have u6 := run_underlying Tryz.underlying22
 have t7 := Tryz.underlying111; have a7 := Tryz.isAgg111; have z7 := Tryz.sizeOf111; have v7 := Tryz.zeroValue111; have u7 := run_underlying Tryz.underlying111
 have HS : Hid (∀ s ∈ ls, s.length ≤ 100 ∧ ∀ x ∈ s, rd x.1 ≤ 500 ∧ 0 < x.2 ∧ dl (x.2 : Int) ≤ 200) := hs
 have HK : Hid (∀ i, i < ls.length → rd (k i) ≤ 100 ∧ Con Tryz.prog Tryz.L f [.int .i64 i] (.str (rt (k i)))) := hk
 have HA : Hid (∀ n, n ≤ (allT k 0 ls).length → (((allT k 0 ls).take n).foldl addL []).length ≤ 99 ∧ ∀ y ∈ ((allT k 0 ls).take n).foldl addL [], rd y.1 ≤ 2000 ∧ 0 < y.2 ∧ dl (y.2 : Int) ≤ 200) := hacc
 have HF : Hid ((((allT k 0 ls).foldl addL []).filter fun x => !decide (x.1 = 0)).length ≤ 12) := hfin
 have HR : Hid (∀ r : List Tm, r.Perm (((allT k 0 ls).foldl addL []).filter fun x => !decide (x.1 = 0)) → (r.Pairwise fun x y => x.2 ≤ y.2) → r = R) := hR
 have HE : Hid (∀ i s, ls[i]? = some s → ∃ b o v, ad0 = some ⟨b, o, none⟩ ∧ S b (o + i) ∧ W.cell? ⟨b, o + i, none⟩ = some v ∧ Rep S W (sg s) v) := hel
 have HB : Hid (∀ b j, S b j → b < W.heap.size) := hS
 clear hs hk hacc hfin hR hel hf hS
 show Calls Tryz.prog 93 #[_, _] W _
 go_enter Tryz.func93, Tryz.ntmps93
 go_wp2
 go_loopg [5, 12] ls.length (fun g1 so vi wr => ∃ (i : Nat) (l : List Tm), vi = .int .i64 i ∧ i ≤ ls.length ∧ ls.length ≤ g1 + i ∧ Hid (l = (allT k 0 (ls.take i)).foldl addL []) ∧ wr.ownsRow W.heap.size 141 2 so l.length (tcs l) ∧ Below W.heap.size W wr)
 case atStart => exact ⟨0, [], rfl, by omega, by omega, rfl, World.ownsRow_nil _ _ _ _, Below.refl _ _⟩
 case round =>
  obtain ⟨i, l, rfl, hi, hg1, HL, hwr, hbr⟩ := hrel
  by_cases hlt : i < ls.length
  ·have hltz : (i : Int) < (ls.length : Int) := by omega
   have hsi : ls[i]? = some (ls[i]'hlt) := List.getElem?_eq_getElem hlt
   generalize ls[i]'hlt = s at hsi
   obtain ⟨b, o, us, rfl, hSb, hcl, hrs⟩ := HE.out i s hsi
   have hcl2 : wr.cell? ⟨b, o + i, none⟩ = some us := (hbr.cell (HB.out _ _ hSb)).trans hcl
   obtain ⟨adS, capS, rfl, het⟩ := rep_sg hrs
   have HT : Hid (∀ j x, s[j]? = some x → ∃ b o, adS = some ⟨b, o, none⟩ ∧ (S b (o + j * 2) ∧ W.cell? ⟨b, o + j * 2, none⟩ = some (.string ⟨(rt x.1).toArray⟩)) ∧ (S b (o + (j * 2 + 1)) ∧ W.cell? ⟨b, o + (j * 2 + 1), none⟩ = some (.string ⟨(tz (x.2 : Int)).toArray⟩))) := het
   have HI : Hid (ls[i]? = some s) := hsi
   have hs100 := (HS.out s (List.mem_of_getElem? hsi)).1
   clear het hsi hcl hrs
   go_wp2
   go_loopg [5, 19] s.length (fun g2 so vj wr2 => ∃ (j : Nat) (m : List Tm), vj = .int .i64 j ∧ j ≤ s.length ∧ s.length ≤ g2 + j ∧ Hid (m = (allT k 0 (ls.take i) ++ mulT (k i) (s.take j)).foldl addL []) ∧ wr2.ownsRow W.heap.size 141 2 so m.length (tcs m) ∧ Below W.heap.size W wr2)
   case atStart => exact ⟨0, l, rfl, by omega, by omega, (show Hid _ from by show l = _; rw [HL.out, List.take_zero]; simp [mulT]), hwr, hbr⟩
   case round =>
    clear hwr hbr
    obtain ⟨j, m, rfl, hj, hg2, HM, hwm, hbm⟩ := hrel
    by_cases hjs : j < s.length
    ·have hjz : (j : Int) < (s.length : Int) := by omega
     have hx : s[j]? = some (s[j]'hjs) := List.getElem?_eq_getElem hjs
     generalize s[j]'hjs = x at hx
     obtain ⟨b2, o2, rfl, ⟨hS1, hc1⟩, ⟨hS2, hc2⟩⟩ := HT.out j x hx
     have cA : wr.cell? ⟨b2, o2 + j * 2, none⟩ = some (.string ⟨(rt x.1).toArray⟩) := (hbm.cell (HB.out _ _ hS1)).trans hc1
     have cB : wr.cell? ⟨b2, o2 + j * 2 + 1, none⟩ = some (.string ⟨(tz (x.2 : Int)).toArray⟩) := (hbm.cell (HB.out _ _ hS2)).trans hc2
     obtain ⟨x1, x2, x3⟩ := (HS.out s (List.mem_of_getElem? HI.out)).2 x (List.mem_of_getElem? hx)
     obtain ⟨k1, k2⟩ := HK.out i hlt
     have hmb : m.length ≤ 99 ∧ ∀ y ∈ m, rd y.1 ≤ 2000 ∧ 0 < y.2 ∧ dl (y.2 : Int) ≤ 200 := by
      obtain ⟨q1, q2⟩ := allT_taken (k := k) HI.out hj
      have := HA.out _ q2
      rw [q1, ← HM.out] at this
      exact this
     have HMB : Hid (m.length ≤ 99 ∧ ∀ y ∈ m, rd y.1 ≤ 2000 ∧ 0 < y.2 ∧ dl (y.2 : Int) ≤ 200) := hmb
     have HX : Hid (s[j]? = some x) := hx
     have hrd := rd_mul x.1 (k i)
     have hgm := hwm.lt
     have hszm := hbm.size
     clear hS1 hc1 hS2 hc2 hx hmb
     go_wp2
     have hU : (wr.alloc (.cells #[.string ⟨(rt x.1).toArray⟩, .string ⟨(tz (x.2 : Int)).toArray⟩] 141)).heap[wr.heap.size]? = some (.cells #[.string ⟨(rt x.1).toArray⟩, .string ⟨(tz (x.2 : Int)).toArray⟩] 141 (0, 0)) := World.alloc_heap_new _ _
     have hBa : Below W.heap.size W (wr.alloc (.cells #[.string ⟨(rt x.1).toArray⟩, .string ⟨(tz (x.2 : Int)).toArray⟩] 141)) := hbm.alloc hszm _
     have hwa := hwm.alloc (.cells #[.string ⟨(rt x.1).toArray⟩, .string ⟨(tz (x.2 : Int)).toArray⟩] 141)
     generalize (wr.alloc (.cells #[.string ⟨(rt x.1).toArray⟩, .string ⟨(tz (x.2 : Int)).toArray⟩] 141)) = V at *
     have hBV : Below W.heap.size W V.drew := hBa.drew
     have hUV : V.drew.heap[wr.heap.size]? = some (.cells #[.string ⟨(rt x.1).toArray⟩, .string ⟨(tz (x.2 : Int)).toArray⟩] 141 (0, 0)) := hU
     have hwV := hwa.drew
     obtain ⟨cu, cu'⟩ := cells2 hU
     obtain ⟨cv, cv'⟩ := cells2 hUV
     clear cA cB hwm hbm hBa hwa hU
     go_region_held3 (fun w' => w'.cell? ⟨wr.heap.size, 0, none⟩ = some (.string ⟨(rt x.1).toArray⟩) ∧ w'.cell? ⟨wr.heap.size, 1, none⟩ = some (.string ⟨(tz (x.2 : Int)).toArray⟩)) (go_keep)
      (first
       | (go_at_fn f; refine Calls.mono (k2.2 (fun _ _ => False) _ [.int .i64 i] (fun _ _ h => h.elim) (Tryz.hL W _ hL hBV) (Reps.cons (.int _ _) .nil)) ?_; rintro e W5 ⟨v5, rfl, hb5, hr5⟩; obtain rfl : v5 = .string ⟨(rt (k i)).toArray⟩ := (by cases hr5; rfl); clear hr5; have hU5 := below_heap hb5 hUV; have hB5 := hBV.grown (gb_below (r := none) hb5) hBV.size (fun k hk => by cases hk); have hw5 := hwV.kept (gb_below (r := none) hb5) (by generalize Value.ownBlock _ = q; cases q <;> simp); obtain ⟨c5, c5'⟩ := cells2 hU5; clear hb5)
       | (go_at_call 29; refine Calls.mono ((Tryz.rmul x.1 (k i) (by omega) (by omega)).2 (fun _ _ => False) _ [.string ⟨(rt x.1).toArray⟩, .string ⟨(rt (k i)).toArray⟩] (fun _ _ h => h.elim) (Tryz.hL W _ hL hB5) (Reps.cons (.str _ (by have := rt_len x.1; unfold maxLen; omega)) (Reps.cons (.str _ (by have := rt_len (k i); unfold maxLen; omega)) .nil))) ?_; rintro e W6 ⟨v6, rfl, hb6, hr6⟩; obtain rfl : v6 = .string ⟨(rt (x.1 * k i)).toArray⟩ := (by cases hr6; rfl); clear hr6; have hU6 := below_heap hb6 hU5; have hB6 := hB5.grown (gb_below (r := none) hb6) hB5.size (fun k hk => by cases hk); have hw6 := hw5.kept (gb_below (r := none) hb6) (by generalize Value.ownBlock _ = q; cases q <;> simp); obtain ⟨c6, c6'⟩ := cells2 hU6; clear hb6)
       | (go_at_call 122; refine Calls.mono (Tryz.sadd W _ _ m (x.1 * k i, x.2) hL hB6 hw6 (by have := HMB.out.1; omega) HMB.out.2 ⟨by show rd (x.1 * k i) ≤ 2000; omega, x2, x3⟩) ?_; rintro e W7 ⟨v7, rfl, hw7, hg7, hB7⟩; have c7 := hg7.cell c6 (fun h => by have := (hgm _ h.symm).2; exact Nat.lt_irrefl _ this); have c7' := hg7.cell c6' (fun h => by have := (hgm _ h.symm).2; exact Nat.lt_irrefl _ this); clear hg7))
     all_goals go_wp2_with fail
     all_goals go_roundg (s.length - (j + 1))
     case measure => omega
     case rel =>
      refine ⟨j + 1, addL m (x.1 * k i, x.2), by go_num, by omega, by omega, (show Hid _ from ?_), hw7, hB7⟩
      show addL m (x.1 * k i, x.2) = _
      rw [HM.out, take_snoc HX.out]
      simp [mulT, List.foldl_append]
    ·obtain rfl : j = s.length := by omega
     have hjz : ¬ (s.length : Int) < (s.length : Int) := by omega
     go_wp2
     go_roundg (ls.length - (i + 1))
     case measure => omega
     case rel => exact ⟨i + 1, m, by go_num, by omega, by omega, (show Hid _ from by show m = _; rw [HM.out, List.take_length, allT_take HI.out]), hwm, hbm⟩
  ·obtain rfl : i = ls.length := by omega
   have hltz : ¬ (ls.length : Int) < (ls.length : Int) := by omega
   have HL2 : Hid (l = (allT k 0 ls).foldl addL []) := by have := HL.out; rw [List.take_length] at this; exact this
   have hb := HA.out _ (Nat.le_refl _)
   rw [List.take_length, ← HL2.out] at hb
   have HBD : Hid (l.length ≤ 99 ∧ ∀ y ∈ l, rd y.1 ≤ 2000 ∧ 0 < y.2 ∧ dl (y.2 : Int) ≤ 200) := hb
   have hd := Tryz.sdeleteO W wr _ l hL hbr hwr (by omega) (fun y hy => ⟨(hb.2 y hy).1, (hb.2 y hy).2.2⟩)
   clear hb HL
   go_wp2_with (first
    | (go_at_call 123; refine Calls.mono hd ?_; rintro e W2 ⟨v2, rfl, hw2, hg2, hb2⟩; have hst := Tryz.ssort W W2 v2 _ hL hb2 hw2 (by rw [HL2.out]; exact HF.out) (fun y hy => have hm := (List.mem_filter.1 hy).1; ⟨(HBD.out.2 y hm).1, (HBD.out.2 y hm).2.2⟩); clear hw2 hb2 hg2)
    | (go_at_call 125; refine Calls.mono hst ?_; rintro e W3 ⟨rfl, r, hp, hsrt, hw3, hg3, hb3⟩))
   go_ret
   rw [HL2.out] at hp
   obtain rfl := HR.out r hp hsrt
   rw [HL2.out, ← hp.length_eq] at hw3
   refine ⟨v2, rfl, hb3, rep_ownS hw3 (fun y hy => ?_) fun g j h1 h2 => .inr ⟨h1, h2⟩⟩
   have hm := (List.mem_filter.1 (hp.mem_iff.1 hy)).1
   rw [← HL2.out] at hm
   exact ⟨(HBD.out.2 y hm).1, (HBD.out.2 y hm).2.2⟩
end Go.Proofs

/-
 SURD: enclose. Own work.
-/
namespace Go.Proofs
open Go Go.Pi Go.RowKit Go.Ar

/-- the common denominator -/
def denF (d : Nat) (x : Tm) : Nat := d * (x.1.den / Nat.gcd d x.1.den)
def denL (l : List Tm) : Nat := l.foldl denF 1
/-- both bounds of a sum -/
def upR (n : Nat) : Nat := if isq n then nrt n else nrt n + 1
def encF (d s : Nat) (p : Int × Int) (x : Tm) : Int × Int :=
 if ((d / x.1.den : Nat) : Int) * x.1.num < 0 then (p.1 + ((d / x.1.den : Nat) : Int) * x.1.num * (upR (x.2 * s) : Nat), p.2 + ((d / x.1.den : Nat) : Int) * x.1.num * (nrt (x.2 * s) : Nat))
 else (p.1 + ((d / x.1.den : Nat) : Int) * x.1.num * (nrt (x.2 * s) : Nat), p.2 + ((d / x.1.den : Nat) : Int) * x.1.num * (upR (x.2 * s) : Nat))
def encL (l : List Tm) (bits : Nat) : Int × Int := l.foldl (encF (denL l) (4 ^ bits)) (0, 0)
end Go.Proofs

/-
 SURD: sign, Sign, Rational, floor, Bounds. Own work.
-/
namespace Go.Proofs
open Go Go.Pi Go.RowKit Go.Ar

theorem Tryz.rational1 (x : Tm) (h : SOk [x]) (h1 : x.2 = 1) : Con Tryz.prog Tryz.L 51 [sg [x]] (.tup [.str (rt x.1), .bool true, .int .i64 0]) := by
 refine rule51 Tryz.hL rfl rfl rfl ?_
 (simp only [pc51, rs51, oU, oC]; refine ev ?_; try exact ⟨⟩)
 refine callF_of (Tryz.check [x] h) ?_
 (refine ev ?_; try exact ⟨⟩)
 simp only [tms, rows, List.flatMap_cons, List.flatMap_nil, List.append_nil, tD, List.take, List.drop, List.length_singleton, List.length_cons, List.length_nil, evX, evY, evZ, forall_const, implies_true, initE, stepF, D.clean, mvF, moF, tkF, shF, ariF, ciF, catF, scF, ebF, eqF, eqOk, eqPr, enF, notF, ngF, cvF, csF, csbF, lenF, lenSF, ixF, iaF, PX.slot, iaAF, faF, ldF, D.mem, stF, bxF, mkSF, boundF, fldF, ixAF, mmF2, D.plain, D.isPure, optAll, D.dull, callVF, splice, D.cells, D.one, sets, resT, D.flat, D.flat0, D.simple, Nat.reduceBNe, Nat.reduceLT, reduceIte, Nat.reduceEqDiff, Nat.reduceAdd, Nat.reduceMul, Nat.reduceSub, Nat.reduceLeDiff, Int.reduceToNat, Int.reduceLT, Int.reduceLE, Int.reduceEq, Int.reduceNeg, Int.reduceSub, Int.reduceAdd, Int.reduceMul, stG_own]
 refine ⟨fun h2 => absurd h2 (by decide), fun _ => ⟨fun _ => ⟨by decide, fun _ => ⟨by decide, ?_⟩, fun h2 => absurd (tz_one.2 (by omega)) h2⟩, fun h2 => absurd rfl h2⟩⟩
 simp [resD, rvD, lk, D.plain, D.isPure, optAll]
end Go.Proofs
