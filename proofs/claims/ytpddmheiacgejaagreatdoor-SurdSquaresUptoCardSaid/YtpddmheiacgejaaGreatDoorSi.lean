/-
  SURD: slices.SortFunc of at most 12 terms, in the plain walk. Own work.
-/
import Derived.Test.YtpddmheiacgejaaGreatDoorPj
import Derived.Test.YtpddmheiacgejaaGreatDoorSh
import Derived.Deep.LoopGhost
import Derived.Shelf.RegionOpenPlain
import Derived.Test.YtpddmheiacgejaaGreatDoorSg
namespace Go.Proofs
open Go Go.Pi Go.RowKit Go.Shelf Go.Ar

theorem Tryz.scmp (x y : Tm) (hx : dl (x.2 : Int) ≤ 9000) (hy : dl (y.2 : Int) ≤ 9000) : Con Tryz.prog Tryz.L 125 ([.agg (tD x), .agg (tD y)] ++ []) (.int .i64 (cmpZ (x.2 : Int) (y.2 : Int))) := by
  refine rule125 Tryz.hL rfl rfl rfl ?_
  simp only [pc125, rs125, oU, oC, tD, List.append_nil, evX, evY, evZ, forall_const, implies_true, initE, stepF, D.clean, mvF, moF, tkF, shF, ariF, ciF, catF, scF, ebF, eqF, eqOk, eqPr, enF, notF, ngF, cvF, csF, csbF, lenF, lenSF, ixF, iaF, PX.slot, iaAF, faF, ldF, D.mem, stF, bxF, mkSF, boundF, fldF, mmF2, D.plain, D.isPure, optAll, D.dull, callVF, splice, D.cells, D.one, sets, resT, D.flat, D.flat0, D.simple, Nat.reduceBNe, Nat.reduceLT, reduceIte, Nat.reduceEqDiff, Nat.reduceAdd, Nat.reduceMul, Nat.reduceSub, Nat.reduceLeDiff, Int.reduceToNat, Int.reduceLT, Int.reduceLE, Int.reduceEq, Int.reduceNeg, Int.reduceSub, Int.reduceAdd, Int.reduceMul, stG_own]
  refine callF_of (Tryz.compare (x.2 : Int) (y.2 : Int) (by omega) (by omega)) ?_
  (refine ev ?_; try with_reducible exact trivial)
theorem rep_tm (S : Nat → Nat → Prop) (W : World) (x : Tm) (h1 : rd x.1 ≤ 2000) (h2 : dl (x.2 : Int) ≤ 200) : Rep S W (.agg (tD x)) (.agg (stc x).toArray) := by
  refine Rep.agg (tD x) (stc x) rfl (by simp [tD, D.one]) fun i d v hd hv => ?_
  match i with
  | 0 => cases hd; cases hv; exact .str _ (by have := rt_len x.1; unfold maxLen; omega)
  | 1 => cases hd; cases hv; exact .str _ (by have := tz_dl (x.2 : Int); unfold maxLen; omega)
  | i + 2 => simp [tD] at hd
theorem Tryz.scmp_calls (x y : Tm) (hx : rd x.1 ≤ 2000 ∧ dl (x.2 : Int) ≤ 200) (hy : rd y.1 ≤ 2000 ∧ dl (y.2 : Int) ≤ 200) (W : World) (hL : Tryz.L W) :
    Calls Tryz.prog 125 #[.agg (stc x).toArray, .agg (stc y).toArray] W fun e W' => e = .returned (.int .i64 (cmpZ (x.2 : Int) (y.2 : Int))) ∧ Below W.heap.size W W' := by
  refine Calls.mono ((Tryz.scmp x y (by omega) (by omega)).2 (fun _ _ => False) W [.agg (stc x).toArray, .agg (stc y).toArray] (fun _ _ h => h.elim) hL (Reps.cons (rep_tm _ _ x hx.1 hx.2) (Reps.cons (rep_tm _ _ y hy.1 hy.2) .nil))) ?_
  rintro e W' ⟨v, rfl, hb, hr⟩
  cases hr
  exact ⟨rfl, hb⟩

/-- in order but for one place -/
def ordB (c : List Tm) (i j : Nat) : Prop := ∀ a b x y, a < b → b ≤ i → b ≠ j → c[a]? = some x → c[b]? = some y → x.2 ≤ y.2
def ordA (c : List Tm) (i : Nat) : Prop := ∀ a b x y, a < b → b < i → c[a]? = some x → c[b]? = some y → x.2 ≤ y.2
theorem ordB_of {c : List Tm} {i : Nat} (h : ordA c i) : ordB c i i := fun a b x y h1 h2 h3 => h a b x y h1 (by omega)
theorem ordA_zero {c : List Tm} {i : Nat} (h : ordB c i 0) : ordA c (i + 1) := fun a b x y h1 h2 => h a b x y h1 (by omega) (by omega)
theorem ordA_stop {c : List Tm} {i j : Nat} {p q : Tm} (h : ordB c i (j + 1)) (hp : c[j]? = some p) (hq : c[j + 1]? = some q) (hle : p.2 ≤ q.2) : ordA c (i + 1) := by
  intro a b x y h1 h2 ha hb
  by_cases e : b = j + 1
  · subst e
    rw [hq] at hb; cases hb
    by_cases e2 : a = j
    · subst e2; rw [hp] at ha; cases ha; exact hle
    · exact Nat.le_trans (h a j x p (by omega) (by omega) (by omega) ha hp) hle
  · exact h a b x y h1 (by omega) e ha hb
theorem ordB_swap {c : List Tm} {i j : Nat} {p q : Tm} (h : ordB c i (j + 1)) (hj : j + 1 ≤ i) (hp : c[j]? = some p) (hq : c[j + 1]? = some q) (hlt : q.2 < p.2) : ordB ((c.set (j + 1) p).set j q) i j := by
  have hl : j + 1 < c.length := (List.getElem?_eq_some_iff.1 hq).1
  have g : ∀ k, ((c.set (j + 1) p).set j q)[k]? = if k = j then some q else if k = j + 1 then some p else c[k]? := by
    intro k
    rw [List.getElem?_set, List.getElem?_set, List.length_set]
    by_cases e1 : k = j
    · rw [if_pos e1.symm, if_pos (by omega), if_pos e1]
    · rw [if_neg (Ne.symm e1), if_neg e1]
      by_cases e2 : k = j + 1
      · rw [if_pos e2.symm, if_pos (by omega), if_pos e2]
      · rw [if_neg (Ne.symm e2), if_neg e2]
  intro a b x y h1 h2 h3 ha hb
  rw [g] at ha hb
  rw [if_neg h3] at hb
  by_cases eb : b = j + 1
  · rw [if_pos eb] at hb; cases hb
    by_cases ea : a = j
    · rw [if_pos ea] at ha; cases ha; omega
    · rw [if_neg ea, if_neg (by omega)] at ha
      exact h a j x p (by omega) (by omega) (by omega) ha hp
  · rw [if_neg eb] at hb
    by_cases ea : a = j
    · rw [if_pos ea] at ha; cases ha
      exact h (j + 1) b q y (by omega) h2 eb hq hb
    · rw [if_neg ea] at ha
      by_cases ea2 : a = j + 1
      · rw [if_pos ea2] at ha; cases ha
        exact h j b p y (by omega) h2 eb hp hb
      · rw [if_neg ea2] at ha
        exact h a b x y h1 h2 eb ha hb
theorem swap_perm {c : List Tm} {j : Nat} {p q : Tm} (hp : c[j]? = some p) (hq : c[j + 1]? = some q) : ((c.set (j + 1) p).set j q).Perm c := by
  obtain ⟨h1, rfl⟩ := List.getElem?_eq_some_iff.1 hp
  obtain ⟨h2, rfl⟩ := List.getElem?_eq_some_iff.1 hq
  exact List.set_set_perm h2 h1
theorem ordA_sorted {c : List Tm} (h : ordA c c.length) : c.Pairwise fun x y => x.2 ≤ y.2 := by
  rw [List.pairwise_iff_getElem]
  intro a b ha hb hab
  exact h a b _ _ hab hb (List.getElem?_eq_getElem ha) (List.getElem?_eq_getElem hb)

set_option maxRecDepth 100000 in
set_option maxHeartbeats 4000000 in
theorem Tryz.sinsertion (w0 W : World) (v : Value) (l : List Tm) (hL0 : Tryz.L w0) (hbw : Below w0.heap.size w0 W) (hown : W.ownsRow w0.heap.size 45 2 v l.length (tcs l)) (hlen : l.length ≤ 12)
    (hl : ∀ y ∈ l, rd y.1 ≤ 2000 ∧ dl (y.2 : Int) ≤ 200) :
    Calls Tryz.prog 163 #[v, .int .i64 0, .int .i64 l.length, .func (.func 125) #[] #[]] W fun e W' => e = .returned (.tuple #[]) ∧
      ∃ r : List Tm, r.Perm l ∧ (r.Pairwise fun x y => x.2 ≤ y.2) ∧ W'.ownsRow w0.heap.size 45 2 v l.length (tcs r) ∧ W.grownBy W' v.ownBlock ∧ Below w0.heap.size w0 W' := by
  have mixed : Tryz.prog.follows .mixedOrders = true := by kernel_rfl
  have t0 := Tryz.underlying24; have a0 := Tryz.isAgg24; have z0 := Tryz.sizeOf24; have v0 := Tryz.zeroValue24; have u0 := run_underlying Tryz.underlying24
  have t1 := Tryz.underlying45; have a1 := Tryz.isAgg45; have z1 := Tryz.sizeOf45; have v1 := Tryz.zeroValue45; have u1 := run_underlying Tryz.underlying45
  have t3 := Tryz.underlying4; have a3 := Tryz.isAgg4; have z3 := Tryz.sizeOf4; have v3 := Tryz.zeroValue4; have u3 := run_underlying Tryz.underlying4
  have t4 := Tryz.underlying3; have a4 := Tryz.isAgg3; have z4 := Tryz.sizeOf3; have v4 := Tryz.zeroValue3; have u4 := run_underlying Tryz.underlying3
  have vsl : ∃ ad cap, v = .slice ad l.length cap := by
    rcases hown.2 with ⟨h1, h2⟩ | ⟨g, cap, cur, h1, _⟩
    · exact ⟨none, 0, by rw [h1, h2]⟩
    · exact ⟨_, _, h1⟩
  obtain ⟨ad, cap, rfl⟩ := vsl
  have HL : Hid (∀ y ∈ l, rd y.1 ≤ 2000 ∧ dl (y.2 : Int) ≤ 200) := hl
  clear hl
  go_enter Tryz.func163, Tryz.ntmps163
  go_wp2
  go_loopg [8] (l.length) (fun g1 vi wr => ∃ (i : Nat) (c : List Tm), vi = .int .i64 i ∧ 1 ≤ i ∧ i ≤ l.length + 1 ∧ l.length ≤ g1 + i ∧ c.Perm l ∧ Hid (ordA c i) ∧ wr.ownsRow w0.heap.size 45 2 (.slice ad l.length cap) l.length (tcs c) ∧ W.grownBy wr (Value.ownBlock (.slice ad l.length cap)))
  case atStart => exact ⟨1, l, by go_num, by omega, by omega, by omega, List.Perm.refl _, fun a b x y h1 h2 => by omega, hown, ⟨rfl, rfl, rfl, Nat.le_refl _, fun _ _ _ => rfl⟩⟩
  case round =>
    obtain ⟨i, c, rfl, hi1, hi2, hg1, hpm, HO, hwn, hgr⟩ := hrel
    by_cases hlt : i < l.length
    · have hltz : (i : Int) < (l.length : Int) := by omega
      have hadf : ∃ g, ad = some ⟨g, 0, none⟩ := by
        rcases hown.2 with ⟨h1, h2⟩ | ⟨g, cap, cur, h1, _⟩
        · omega
        · cases h1; exact ⟨g, rfl⟩
      obtain ⟨g, rfl⟩ := hadf
      go_wp2
      go_loopg [9] i (fun g2 vj wr2 => ∃ (j : Nat) (d : List Tm), vj = .int .i64 j ∧ j ≤ i ∧ j ≤ g2 ∧ d.Perm l ∧ Hid (ordB d i j) ∧ wr2.ownsRow w0.heap.size 45 2 (.slice (some ⟨g, 0, none⟩) l.length cap) l.length (tcs d) ∧ W.grownBy wr2 (some g))
      case atStart => exact ⟨i, c, rfl, Nat.le_refl _, Nat.le_refl _, hpm, ordB_of HO.out, hwn, hgr⟩
      case round =>
        clear hwn hgr hpm HO
        obtain ⟨j, d, rfl, hji, hg2, hpd, HI, hwd, hgd⟩ := hrel
        have hdl : d.length = l.length := hpd.length_eq
        by_cases hj0 : 0 < j
        · obtain ⟨jp, rfl⟩ : ∃ jp, j = jp + 1 := ⟨j - 1, by omega⟩
          have hjz : decide ((jp : Int) + 1 > 0) = true := decide_eq_true (by omega)
          have hjz2 : (0 : Int) < (jp : Int) + 1 := by omega
          have hp : d[jp]? = some (d[jp]'(by omega)) := List.getElem?_eq_getElem (by omega)
          generalize d[jp]'(by omega) = p at hp
          have hq : d[jp + 1]? = some (d[jp + 1]'(by omega)) := List.getElem?_eq_getElem (by omega)
          generalize d[jp + 1]'(by omega) = q at hq
          have hpb := HL.out p (hpd.mem_iff.1 (List.mem_of_getElem? hp))
          have hqb := HL.out q (hpd.mem_iff.1 (List.mem_of_getElem? hq))
          have hLW : ∀ w', W.grownBy w' (some g) → Tryz.L w' := fun w' h => Tryz.hL w0 _ hL0 (hbw.grown h hbw.size (fun k hk => by cases hk; exact (hown.lt g rfl).1))
          obtain ⟨cp, cp'⟩ := tcs_at hp
          obtain ⟨cq, cq'⟩ := tcs_at hq
          rw [← hwd.cellAt (jp * 2) (by omega)] at cp
          rw [← hwd.cellAt (jp * 2 + 1) (by omega)] at cp'
          rw [← hwd.cellAt ((jp + 1) * 2) (by omega)] at cq
          rw [← hwd.cellAt ((jp + 1) * 2 + 1) (by omega)] at cq'
          have hwp : IntKind.i64.wrap (jp : Int) = (jp : Int) := by rw [IntKind.wrap_i64]; omega
          have jz : (jp : Int) + 1 < (l.length : Int) := by omega
          have jz1 : (jp : Int) < (l.length : Int) := by omega
          have p0 : (0 : Int) ≤ (jp : Int) + 1 := by omega
          have e0 : ((jp : Int) + 1).toNat = jp + 1 := by omega
          have hGd : W.grownBy wr.drew (some g) := ⟨hgd.os, hgd.tape, hgd.output, hgd.size, hgd.block⟩
          have HW : Hid (wr.drew.ownsRow w0.heap.size 45 2 (.slice (some ⟨g, 0, none⟩) l.length cap) l.length (tcs d) ∧ W.grownBy wr.drew (some g)) := ⟨hwd.drew, hGd⟩
          have HX : Hid (d.Perm l ∧ d[jp]? = some p ∧ d[jp + 1]? = some q) := ⟨hpd, hp, hq⟩
          have hcm := Tryz.scmp_calls q p hqb hpb wr.drew (hLW _ hGd)
          clear hwd hgd hGd hpd hp hq
          by_cases hc : q.2 < p.2
          · have ec : decide (cmpZ (q.2 : Int) (p.2 : Int) < 0) = true := by unfold cmpZ; simp; omega
            go_wp2_with fail
            go_region_held3 (fun w' => w'.cell? ⟨g, jp * 2, none⟩ = some (.string ⟨(rt p.1).toArray⟩) ∧ w'.cell? ⟨g, jp * 2 + 1, none⟩ = some (.string ⟨(tz (p.2 : Int)).toArray⟩) ∧ w'.cell? ⟨g, (jp + 1) * 2, none⟩ = some (.string ⟨(rt q.1).toArray⟩) ∧ w'.cell? ⟨g, (jp + 1) * 2 + 1, none⟩ = some (.string ⟨(tz (q.2 : Int)).toArray⟩)) (go_keep)
              (first
                | (go_at_call 125; refine Calls.mono hcm ?_; rintro e W5 ⟨rfl, hb5⟩; have hw5 := HW.out.1.kept (gb_below (r := none) hb5) (.inr (by simp [Value.ownBlock])); have d1 := (hw5.cellAt (jp * 2) (by omega)).trans (tcs_at HX.out.2.1).1; have d2 := (hw5.cellAt (jp * 2 + 1) (by omega)).trans (tcs_at HX.out.2.1).2; have d3 := (hw5.cellAt ((jp + 1) * 2) (by omega)).trans (tcs_at HX.out.2.2).1; have d4 := (hw5.cellAt ((jp + 1) * 2 + 1) (by omega)).trans (tcs_at HX.out.2.2).2; have hG5 := gb_trans HW.out.2 (gb_below (r := some g) hb5); clear hb5))
            all_goals clear hcm cp cp' cq cq'
            all_goals go_wp2_with fail
            have f1 := hw5.frozenAt (jp * 2)
            have f2 := hw5.frozenAt (jp * 2 + 1)
            have f3 := hw5.frozenAt ((jp + 1) * 2)
            have f4 := hw5.frozenAt ((jp + 1) * 2 + 1)
            have n1 : (jp + 1) * 2 ≠ jp * 2 := by omega
            have n2 : (jp + 1) * 2 + 1 ≠ jp * 2 := by omega
            have n3 : (jp + 1) * 2 ≠ jp * 2 + 1 := by omega
            have n4 : (jp + 1) * 2 + 1 ≠ jp * 2 + 1 := by omega
            go_big_region_o
            all_goals go_wp2
            go_roundg jp
            case measure => omega
            case rel =>
              have st1 := hw5.drew.stored ((jp + 1) * 2) (.string ⟨(rt p.1).toArray⟩)
              have st2 := st1.1.stored ((jp + 1) * 2 + 1) (.string ⟨(tz (p.2 : Int)).toArray⟩)
              have g2 := gb_trans st1.2 st2.2
              rw [tcs_set d (jp + 1) p (by omega)] at st2
              have st3 := st2.1.stored (jp * 2) (.string ⟨(rt q.1).toArray⟩)
              have st4 := st3.1.stored (jp * 2 + 1) (.string ⟨(tz (q.2 : Int)).toArray⟩)
              have g4 := gb_trans g2 (gb_trans st3.2 st4.2)
              rw [tcs_set (d.set (jp + 1) p) jp q (by rw [List.length_set]; omega)] at st4
              refine ⟨jp, (d.set (jp + 1) p).set jp q, by first | rfl | go_num | (congr 1; omega), by omega, Nat.le_refl _, (swap_perm HX.out.2.1 HX.out.2.2).trans HX.out.1, (show Hid _ from ordB_swap HI.out hji HX.out.2.1 HX.out.2.2 hc), st4.1, gb_trans hG5 ?_⟩
              exact ⟨g4.os, g4.tape, g4.output, g4.size, g4.block⟩
          · have ec : decide (cmpZ (q.2 : Int) (p.2 : Int) < 0) = false := by unfold cmpZ; simp; omega
            go_wp2_with fail
            go_region_held3 (fun w' => w'.cell? ⟨g, jp * 2, none⟩ = some (.string ⟨(rt p.1).toArray⟩) ∧ w'.cell? ⟨g, jp * 2 + 1, none⟩ = some (.string ⟨(tz (p.2 : Int)).toArray⟩) ∧ w'.cell? ⟨g, (jp + 1) * 2, none⟩ = some (.string ⟨(rt q.1).toArray⟩) ∧ w'.cell? ⟨g, (jp + 1) * 2 + 1, none⟩ = some (.string ⟨(tz (q.2 : Int)).toArray⟩)) (go_keep)
              (first
                | (go_at_call 125; refine Calls.mono hcm ?_; rintro e W5 ⟨rfl, hb5⟩; have hw5 := HW.out.1.kept (gb_below (r := none) hb5) (.inr (by simp [Value.ownBlock])); have d1 := (hw5.cellAt (jp * 2) (by omega)).trans (tcs_at HX.out.2.1).1; have d2 := (hw5.cellAt (jp * 2 + 1) (by omega)).trans (tcs_at HX.out.2.1).2; have d3 := (hw5.cellAt ((jp + 1) * 2) (by omega)).trans (tcs_at HX.out.2.2).1; have d4 := (hw5.cellAt ((jp + 1) * 2 + 1) (by omega)).trans (tcs_at HX.out.2.2).2; have hG5 := gb_trans HW.out.2 (gb_below (r := some g) hb5); clear hb5))
            all_goals clear hcm cp cp' cq cq'
            all_goals go_wp2_with fail
            all_goals go_roundg (l.length - (i + 1))
            case measure => omega
            case rel => exact ⟨i + 1, d, by go_num, by omega, by omega, by omega, HX.out.1, (show Hid _ from ordA_stop HI.out HX.out.2.1 HX.out.2.2 (by omega)), hw5, hG5⟩
        · obtain rfl : j = 0 := by omega
          have hjz : decide ((0 : Int) > 0) = false := by decide
          have hgd' : W.grownBy wr.drew (some g) := ⟨hgd.os, hgd.tape, hgd.output, hgd.size, hgd.block⟩
          have HW : Hid (wr.drew.ownsRow w0.heap.size 45 2 (.slice (some ⟨g, 0, none⟩) l.length cap) l.length (tcs d) ∧ W.grownBy wr.drew (some g) ∧ d.Perm l) := ⟨hwd.drew, hgd', hpd⟩
          clear hwd hgd hgd' hpd
          go_wp2_with fail
          go_big_region_o
          all_goals go_wp2
          go_roundg (l.length - (i + 1))
          case measure => omega
          case rel => exact ⟨i + 1, d, by go_num, by omega, by omega, by omega, HW.out.2.2, (show Hid _ from ordA_zero HI.out), HW.out.1, HW.out.2.1⟩
    · have hltz : ¬ (i : Int) < (l.length : Int) := by omega
      have hso : c.Pairwise fun x y => x.2 ≤ y.2 := ordA_sorted fun a b x y h1 h2 => HO.out a b x y h1 (by have := hpm.length_eq; omega)
      clear HO
      go_wp2
      go_end0
      exact ⟨rfl, c, hpm, hso, hwn, hgr, hbw.grown hgr hbw.size (fun k hk => (hown.lt k hk).1)⟩
end Go.Proofs

/-
  SURD: slices.DeleteFunc of the terms with factor zero, in the plain walk. Own work.
-/
namespace Go.Proofs
open Go Go.Pi Go.RowKit Go.Shelf Go.Ar

theorem ixA_ge {α : Type} {p : α → Bool} {l : List α} {k : Nat} (h : ¬0 ≤ ixA p l k) : ∀ x ∈ l, p x = false := by
  rw [ixA_any] at h
  intro x hx
  cases hp : p x with
  | false => rfl
  | true => exact absurd (List.any_eq_true.2 ⟨x, hx, hp⟩) h
theorem ixA_small {α : Type} {p : α → Bool} : ∀ {l : List α} {k : Nat}, ixA p l k = -1 ∨ ((k : Int) ≤ ixA p l k ∧ ixA p l k < k + l.length)
  | [], k => .inl rfl
  | a :: l, k => by
    have ih := ixA_small (p := p) (l := l) (k := k + 1)
    simp only [ixA, List.length_cons]
    split
    · right; omega
    · rcases ih with h | h
      · exact .inl h
      · right; omega

theorem ixA_take {p : Tm → Bool} : ∀ (l : List Tm) (k : Nat), 0 ≤ ixA p l k → ∃ i, i < l.length ∧ ixA p l k = (k + i : Nat) ∧ (l.take (i + 1)).filter (fun x => !p x) = l.take i
  | [], k, h => absurd h (by simp [ixA])
  | x :: l, k, h => by
    by_cases hx : p x = true
    · exact ⟨0, by simp, by simp [ixA, hx], by simp [hx]⟩
    · have e : ixA p (x :: l) k = ixA p l (k + 1) := by simp [ixA, hx]
      rw [e] at h
      obtain ⟨i, h1, h2, h3⟩ := ixA_take l (k + 1) h
      refine ⟨i + 1, by simp; omega, by rw [e, h2]; congr 1; omega, ?_⟩
      rw [List.take_succ_cons, List.filter_cons_of_pos (by simpa using hx), h3, List.take_succ_cons]

theorem Tryz.szero (x : Tm) (hx : rd x.1 ≤ 2000) : Con Tryz.prog Tryz.L 123 ([.agg (tD x)] ++ []) (.bool (decide (x.1 = 0))) := by
  refine rule123 Tryz.hL rfl rfl rfl ?_
  simp only [pc123, rs123, oU, oC, tD, List.append_nil, evX, evY, evZ, forall_const, implies_true, initE, stepF, D.clean, mvF, moF, tkF, shF, ariF, ciF, catF, scF, ebF, eqF, eqOk, eqPr, enF, notF, ngF, cvF, csF, csbF, lenF, lenSF, ixF, iaF, PX.slot, iaAF, faF, ldF, D.mem, stF, bxF, mkSF, boundF, fldF, mmF2, D.plain, D.isPure, optAll, D.dull, callVF, splice, D.cells, D.one, sets, resT, D.flat, D.flat0, D.simple, Nat.reduceBNe, Nat.reduceLT, reduceIte, Nat.reduceEqDiff, Nat.reduceAdd, Nat.reduceMul, Nat.reduceSub, Nat.reduceLeDiff, Int.reduceToNat, Int.reduceLT, Int.reduceLE, Int.reduceEq, Int.reduceNeg, Int.reduceSub, Int.reduceAdd, Int.reduceMul, stG_own]
  rw [rt_zero, ← dB_dec]
/-- an own row read as data -/
theorem rep_ownS {W : World} {S : Nat → Nat → Prop} {base e : Nat} {v : Value} {l : List Tm} (h : W.ownsRow base e 2 v l.length (tcs l)) (hl : ∀ y ∈ l, rd y.1 ≤ 2000 ∧ dl (y.2 : Int) ≤ 200) (hS : ∀ g j, base ≤ g → g < W.heap.size → S g j) : Rep S W (sg l) v := by
  have hr : ∀ (i : Nat) (d : D) (u : Value), (tms l)[i]? = some d → (tcs l)[i]? = some u → Rep S W d u := by
    clear h
    induction l with
    | nil => intro i d u hd; simp [rows] at hd
    | cons x l ih =>
      obtain ⟨h1, h2⟩ := hl x (List.mem_cons_self ..)
      intro i d u hd hu
      match i with
      | 0 => cases hd; cases hu; exact .str _ (by have := rt_len x.1; unfold maxLen; omega)
      | 1 => cases hd; cases hu; exact .str _ (by have := tz_dl (x.2 : Int); unfold maxLen; omega)
      | i + 2 => exact ih (fun y hy => hl y (List.mem_cons_of_mem _ hy)) i d u hd hu
  have h1 : ∀ d ∈ tms l, d.one = true := by
    intro d hd
    obtain ⟨x, _, hx⟩ := List.mem_flatMap.1 hd
    simp only [tD, List.mem_cons, List.not_mem_nil, or_false] at hx
    rcases hx with rfl | rfl <;> rfl
  rcases h.2 with ⟨rfl, h0⟩ | ⟨g, cap, cur, rfl, hbg, hg, hn, hc, _, _⟩
  · obtain rfl : l = [] := List.length_eq_zero_iff.1 h0
    exact .sl0 none 0 (Nat.zero_le _)
  · refine .sl l.length (tms l) g 0 cap (tcs l) (by rw [rows_length tD_len, tcs_len]) h1 hn hc (fun i u hu => ⟨hS g _ hbg (Array.getElem?_eq_some_iff.1 hg).1, ?_⟩) hr
    have hlt := (List.getElem?_eq_some_iff.1 hu).1
    rw [tcs_len] at hlt
    rw [Nat.zero_add, h.cellAt i hlt]; exact hu

theorem rep_own {W : World} {base e : Nat} {v : Value} {l : List Tm} (h : W.ownsRow base e 2 v l.length (tcs l)) (hl : ∀ y ∈ l, rd y.1 ≤ 2000 ∧ dl (y.2 : Int) ≤ 200) : Rep (fun b _ => b < W.heap.size) W (sg l) v := rep_ownS h hl fun _ _ _ h => h

/-- clear(s[i:]) of an own row -/
theorem run_clear_row {P : Program} {w : World} {t e base n cap g i : Nat} {xs : List Value} {z : Value} (ht : P.underlying t = some (.slice e)) (hv : ∀ w, (zeroValue e).run P w = .ok z w) (hz : z.cells.size = 2) (hz1 : ∀ u ∈ z.cells, u.oneCell' = true)
    (h : w.ownsRow base e 2 (.slice (some ⟨g, 0, none⟩) n cap) n xs) (hi : i < n) :
    ∃ w', (∀ ty, (Builtin.clear_ #[t] ty #[.slice (some ⟨g, i * 2, none⟩) (n - i) (cap - i)]).run P w = .ok (.tuple #[]) w') ∧ w'.ownsRow base e 2 (.slice (some ⟨g, 0, none⟩) i cap) i (xs.take (i * 2)) ∧ w.grownBy w' (some g) := by
  have hxl := h.1
  rcases h.2 with ⟨h1, _⟩ | ⟨g', cap', cur, h1, hbg, hg, hnc, hcm, hcs, htk⟩
  · simp at h1
  · simp only [Value.slice.injEq, Option.some.injEq, Addr.mk.injEq, and_true, true_and] at h1
    obtain ⟨rfl, rfl⟩ := h1
    have hzs : (Builtin.zeroCells z.cells (n - i)).size = (n - i) * 2 := by rw [size_zeroCells, hz]
    have hfit : i * 2 + 0 + (Builtin.zeroCells z.cells (n - i)).toList.length ≤ cur.size := by rw [Array.length_toList, hzs, hcs]; omega
    have hone : ∀ u ∈ (Builtin.zeroCells z.cells (n - i)).toList, u.oneCell' = true := fun u hu => by
      obtain ⟨q, hq⟩ := List.getElem?_of_mem hu
      simp [Builtin.zeroCells, Array.getElem?_ofFn] at hq
      obtain ⟨hq1, _, rfl⟩ := hq
      have hlt : hq1 % z.cells.size < z.cells.size := Nat.mod_lt _ (by omega)
      rw [getElem!_pos z.cells _ hlt]
      exact hz1 _ (Array.getElem_mem hlt)
    have hex := run_storeCells_at P g (i * 2) e (Builtin.zeroCells z.cells (n - i)).toList 0 cur w hg hfit hone
    simp only [Nat.add_zero] at hex
    generalize hnew : (cur.toList.take (i * 2) ++ (Builtin.zeroCells z.cells (n - i)).toList ++ cur.toList.drop (i * 2 + (Builtin.zeroCells z.cells (n - i)).toList.length)).toArray = arr at hex
    have hnl : arr.toList = cur.toList.take (i * 2) ++ ((Builtin.zeroCells z.cells (n - i)).toList ++ cur.toList.drop (i * 2 + (Builtin.zeroCells z.cells (n - i)).toList.length)) := by rw [← hnew]; simp
    have e1 : (cur.toList.take (i * 2)).length = i * 2 := by rw [List.length_take, Array.length_toList]; omega
    refine ⟨w.setRow g arr, fun ty => ?_, ⟨?_, .inr ⟨g, cap, arr, rfl, hbg, setRow_heap w g cur arr e (0, 0) hg, by omega, hcm, ?_, ?_⟩⟩, ⟨rfl, rfl, rfl, by simp, fun k _ hk => setRow_other w g k arr (fun e => hk (by simp [e]))⟩⟩
    · obtain ⟨q, hq⟩ : ∃ q, n - i = q + 1 := ⟨n - i - 1, by omega⟩
      rw [hq] at hex ⊢
      simp [Builtin.clear_, run_underlying ht, hv, hex]
    · rw [List.length_take]; omega
    · have := congrArg List.length hnl
      rw [List.length_append, List.length_append, e1, List.length_drop, Array.length_toList, Array.length_toList, Array.length_toList] at this
      simp only [Array.length_toList] at hfit
      omega
    · rw [hnl, List.take_left' e1, ← htk, List.take_take, Nat.min_eq_left (by omega)]

set_option maxRecDepth 100000 in
set_option maxHeartbeats 4000000 in
theorem Tryz.sdeleteO (w0 W : World) (v : Value) (l : List Tm) (hL0 : Tryz.L w0) (hbw : Below w0.heap.size w0 W) (hown : W.ownsRow w0.heap.size 45 2 v l.length (tcs l)) (hlen : l.length ≤ 100)
    (hl : ∀ y ∈ l, rd y.1 ≤ 2000 ∧ dl (y.2 : Int) ≤ 200) :
    Calls Tryz.prog 122 #[v, .func (.func 123) #[] #[]] W fun e W' => ∃ v', e = .returned v' ∧
      W'.ownsRow w0.heap.size 45 2 v' (l.filter fun x => !decide (x.1 = 0)).length (tcs (l.filter fun x => !decide (x.1 = 0))) ∧ W.grownBy W' v.ownBlock ∧ Below w0.heap.size w0 W' := by
  have mixed : Tryz.prog.follows .mixedOrders = true := by kernel_rfl
  have t0 := Tryz.underlying25; have a0 := Tryz.isAgg25; have z0 := Tryz.sizeOf25; have v0 := Tryz.zeroValue25; have u0 := run_underlying Tryz.underlying25
  have t1 := Tryz.underlying45; have a1 := Tryz.isAgg45; have z1 := Tryz.sizeOf45; have v1 := Tryz.zeroValue45; have u1 := run_underlying Tryz.underlying45
  have t3 := Tryz.underlying4; have a3 := Tryz.isAgg4; have z3 := Tryz.sizeOf4; have v3 := Tryz.zeroValue4; have u3 := run_underlying Tryz.underlying4
  have t4 := Tryz.underlying3; have a4 := Tryz.isAgg3; have z4 := Tryz.sizeOf3; have v4 := Tryz.zeroValue3; have u4 := run_underlying Tryz.underlying3
  have vsl : ∃ ad cap, v = .slice ad l.length cap := by
    rcases hown.2 with ⟨h1, h2⟩ | ⟨g, cap, cur, h1, _⟩
    · exact ⟨none, 0, by rw [h1, h2]⟩
    · exact ⟨_, _, h1⟩
  obtain ⟨ad, cap, rfl⟩ := vsl
  have HL : Hid (∀ y ∈ l, rd y.1 ≤ 2000 ∧ dl (y.2 : Int) ≤ 200) := hl
  have hci := (Tryz.sindex (f := 123) (caps := []) (fun x => decide (x.1 = 0)) l (by omega) (fun x hx => Tryz.szero x (hl x hx).1)).2 (fun b _ => b < W.heap.size) W [.slice ad l.length cap, .func (.func 123) #[] #[]] (fun b j h => h) (Tryz.hL w0 W hL0 hbw) (Reps.cons (rep_own hown hl) (Reps.cons (.clo _ [] [] rfl (by simp)) .nil))
  clear hl
  by_cases hi : 0 ≤ ixA (fun x : Tm => decide (x.1 = 0)) l 0
  · obtain ⟨i0, q1, q2, q3⟩ := ixA_take (p := fun x => decide (x.1 = 0)) l 0 hi
    have q2 : ixA (fun x : Tm => decide (x.1 = 0)) l 0 = (i0 : Nat) := by rw [q2, Nat.zero_add]
    rw [q2] at hci
    have hadf : ∃ g, ad = some ⟨g, 0, none⟩ := by
      rcases hown.2 with ⟨h1, h2⟩ | ⟨g, cap, cur, h1, _⟩
      · omega
      · cases h1; exact ⟨g, rfl⟩
    obtain ⟨g, rfl⟩ := hadf
    have hne1 : ((i0 : Int) == -1) = false := beq_eq_false_iff_ne.2 (by omega)
    have hcap : l.length ≤ cap := by
      rcases hown.2 with ⟨h1, h2⟩ | ⟨g', cap', cur, h1, _, _, h2, _⟩
      · omega
      · cases h1; exact h2
    clear hi
    go_enter Tryz.func122, Tryz.ntmps122
    go_wp2_with (go_at_call 137; refine Calls.mono hci ?_; rintro e W1 ⟨v1, rfl, hb1, hr1⟩; obtain rfl : v1 = .int .i64 (i0 : Nat) := (by cases hr1; rfl); clear hr1)
    have hG1 : W.grownBy W1 (some g) := gb_below hb1
    have hw1 := hown.kept (gb_below (r := none) hb1) (.inr (by simp [Value.ownBlock]))
    clear hb1 hci
    go_loopg [5, 6, 7] l.length (fun gg s5 s6 _ wr => ∃ (i j : Nat) (cur : List Tm), s5 = .int .i64 i ∧ s6 = .int .i64 j ∧ i < j ∧ j ≤ l.length ∧ l.length ≤ gg + j ∧ cur.length = l.length ∧ Hid (cur.take i = (l.take j).filter (fun x => !decide (x.1 = 0))) ∧ Hid (cur.drop j = l.drop j) ∧
        wr.ownsRow w0.heap.size 45 2 (.slice (some ⟨g, 0, none⟩) l.length cap) l.length (tcs cur) ∧ W.grownBy wr (some g))
    case atStart => exact ⟨i0, i0 + 1, l, rfl, by go_num, by omega, by omega, by omega, rfl, q3.symm, rfl, hw1, hG1⟩
    case round =>
      clear hw1 hG1
      obtain ⟨i, j, cur, rfl, rfl, hij, hj, hgg, hcl, HT, HD, hwr, hgr⟩ := hrel
      have hLW : ∀ w', W.grownBy w' (some g) → Tryz.L w' := fun w' h => Tryz.hL w0 _ hL0 (hbw.grown h hbw.size (fun k hk => by cases hk; exact (hown.lt g rfl).1))
      have hgl : g < W.heap.size := (hown.lt g rfl).2
      have hgw : W.heap.size ≤ wr.heap.size := hgr.size
      by_cases hlt : j < l.length
      · have hltz : (j : Int) < (l.length : Int) := by omega
        have hx : l[j]? = some (l[j]'hlt) := List.getElem?_eq_getElem hlt
        have htk : l.take (j + 1) = l.take j ++ [l[j]'hlt] := List.take_succ_eq_append_getElem hlt
        generalize l[j]'hlt = x at hx htk
        have TK : Hid (l.take (j + 1) = l.take j ++ [x]) := htk
        have hx2 := HL.out x (List.mem_of_getElem? hx)
        have hcx : cur[j]? = some x := by
          have e1 := congrArg (fun q : List Tm => q[0]?) HD.out
          simp only [List.getElem?_drop, Nat.add_zero] at e1
          rw [e1]; exact hx
        have hci2 : cur[i]? = some (cur[i]'(by omega)) := List.getElem?_eq_getElem (by omega)
        generalize cur[i]'(by omega) = old at hci2
        obtain ⟨cA, cB⟩ := tcs_at hcx
        rw [← hwr.cellAt (j * 2) (by omega)] at cA
        rw [← hwr.cellAt (j * 2 + 1) (by omega)] at cB
        have hU : (wr.alloc (.cells #[.string ⟨(rt x.1).toArray⟩, .string ⟨(tz (x.2 : Int)).toArray⟩] 45)).heap[wr.heap.size]? = some (.cells #[.string ⟨(rt x.1).toArray⟩, .string ⟨(tz (x.2 : Int)).toArray⟩] 45 (0, 0)) := World.alloc_heap_new _ _
        have hGa : W.grownBy (wr.alloc (.cells #[.string ⟨(rt x.1).toArray⟩, .string ⟨(tz (x.2 : Int)).toArray⟩] 45)) (some g) := gb_trans hgr (World.grownBy_alloc _ _ _)
        have hwa := hwr.alloc (.cells #[.string ⟨(rt x.1).toArray⟩, .string ⟨(tz (x.2 : Int)).toArray⟩] 45)
        have hdel := (Tryz.szero x hx2.1).2 (fun _ _ => False) (wr.alloc (.cells #[.string ⟨(rt x.1).toArray⟩, .string ⟨(tz (x.2 : Int)).toArray⟩] 45)) [.agg (stc x).toArray] (fun _ _ h => h.elim) (hLW _ hGa) (Reps.cons (rep_tm _ _ x hx2.1 hx2.2) .nil)
        have HW : Hid (wr.ownsRow w0.heap.size 45 2 (.slice (some ⟨g, 0, none⟩) l.length cap) l.length (tcs cur)) := hwr
        have hgi : i * 2 + 1 < l.length * 2 := by omega
        have hgne : g ≠ wr.heap.size := by omega
        have hgne' : wr.heap.size ≠ g := by omega
        clear hwr htk hx
        cases hq : decide (x.1 = 0) with
        | false =>
          rw [hq] at hdel
          go_wp2_with (go_at_call 123; refine Calls.mono hdel ?_; rintro e W5 ⟨v5, rfl, hb5, hr5⟩; obtain rfl : v5 = .bool false := (by cases hr5; rfl); clear hr5; have hU5 := below_heap hb5 hU; obtain ⟨cu5, cu5'⟩ := cells2 hU5; have hG5 := gb_trans hGa (gb_below (r := some g) hb5); have hw5 := hwa.kept (gb_below (r := none) hb5) (.inr (by simp [Value.ownBlock])); have f5 := hw5.frozenAt (i * 2); have f5' := hw5.frozenAt (i * 2 + 1); have d5 := (hw5.cellAt (i * 2) (by omega)).trans (tcs_at hci2).1; have d5' := (hw5.cellAt (i * 2 + 1) (by omega)).trans (tcs_at hci2).2; clear hb5)
          go_roundg (l.length - (j + 1))
          case measure => omega
          case rel =>
            have st1 := hw5.stored (i * 2) (.string ⟨(rt x.1).toArray⟩)
            have st2 := st1.1.stored (i * 2 + 1) (.string ⟨(tz (x.2 : Int)).toArray⟩)
            rw [tcs_set cur i x (by omega)] at st2
            refine ⟨i + 1, j + 1, cur.set i x, by go_num, by go_num, by omega, by omega, by omega, by rw [List.length_set]; exact hcl, (show Hid _ from ?_), (show Hid _ from ?_), st2.1, gb_trans (gb_trans hG5 st1.2) st2.2⟩
            · have e1 : (cur.set i x).take (i + 1) = cur.take i ++ [x] := by
                rw [List.take_succ_eq_append_getElem (by rw [List.length_set]; omega), List.take_set_of_le (Nat.le_refl _), List.getElem_set_self]
              show _ = _
              rw [e1, HT.out, TK.out, List.filter_append, List.filter_cons_of_pos (by simp [hq]), List.filter_nil]
            · show _ = _
              rw [List.drop_set_of_lt (by omega), ← List.drop_drop, HD.out, List.drop_drop]
        | true =>
          rw [hq] at hdel
          go_wp2_with (go_at_call 123; refine Calls.mono hdel ?_; rintro e W5 ⟨v5, rfl, hb5, hr5⟩; obtain rfl : v5 = .bool true := (by cases hr5; rfl); clear hr5; have hG5 := gb_trans hGa (gb_below (r := some g) hb5); have hw5 := hwa.kept (gb_below (r := none) hb5) (.inr (by simp [Value.ownBlock])); clear hb5)
          go_roundg (l.length - (j + 1))
          case measure => omega
          case rel =>
            refine ⟨i, j + 1, cur, rfl, by go_num, by omega, by omega, by omega, hcl, (show Hid _ from ?_), (show Hid _ from ?_), hw5, hG5⟩
            · show _ = _
              rw [HT.out, TK.out, List.filter_append, List.filter_cons_of_neg (by simp [hq]), List.filter_nil, List.append_nil]
            · show _ = _
              rw [← List.drop_drop, HD.out, List.drop_drop]
      · obtain rfl : j = l.length := by omega
        have hltz : ¬ (l.length : Int) < (l.length : Int) := by omega
        obtain ⟨w2, hcl2, hw2, hg2⟩ := run_clear_row t0 v1 rfl (by simp [Value.cells, Value.oneCell']) hwr hij
        have htt := HT.out
        rw [List.take_length] at htt
        have hil : (l.filter fun x => !decide (x.1 = 0)).length = i := by rw [← htt, List.length_take]; omega
        have HIL : Hid ((l.filter fun x => !decide (x.1 = 0)).length = i) := hil
        clear hil
        have e1 : (tcs cur).take (i * 2) = tcs (l.filter fun x => !decide (x.1 = 0)) := by
          rw [← htt]
          conv => lhs; rw [← List.take_append_drop i cur, tcs_app]
          rw [List.take_left' (by rw [tcs_len, List.length_take]; omega)]
        rw [e1] at hw2
        have hne : ¬ (cap = i) := by omega
        clear hwr HT HD htt e1
        go_wp2
        go_ret
        exact ⟨_, rfl, by rw [HIL.out]; exact hw2, gb_trans hgr hg2, hbw.grown (gb_trans hgr hg2) hbw.size (fun k hk => by cases hk; exact (hown.lt g rfl).1)⟩
  · have hall := ixA_ge (p := fun x : Tm => decide (x.1 = 0)) (l := l) (k := 0) hi
    have hf : l.filter (fun x => !decide (x.1 = 0)) = l := List.filter_eq_self.2 fun x hx => by rw [hall x hx]; rfl
    have q2 : ixA (fun x : Tm => decide (x.1 = 0)) l 0 = -1 := by
      rcases ixA_small (p := fun x : Tm => decide (x.1 = 0)) (l := l) (k := 0) with h | h
      · exact h
      · exact absurd (by have := h.1; omega) hi
    rw [q2] at hci
    rw [hf]
    clear hall hf hi
    go_enter Tryz.func122, Tryz.ntmps122
    go_wp2_with (go_at_call 137; refine Calls.mono hci ?_; rintro e W1 ⟨v1, rfl, hb1, hr1⟩; obtain rfl : v1 = .int .i64 (-1) := (by cases hr1; rfl); clear hr1)
    go_ret
    exact ⟨_, by simp, hown.kept (gb_below (r := none) hb1) (by cases ad <;> simp [Value.ownBlock]), gb_below hb1, hbw.grown (gb_below (r := none) hb1) hbw.size (fun k hk => by cases hk)⟩
end Go.Proofs

/-
  SURD: slices.SortFunc of at most 12 terms. Own work.
-/
namespace Go.Proofs
open Go Go.Pi Go.RowKit Go.Shelf Go.Ar

set_option maxRecDepth 100000 in
set_option maxHeartbeats 4000000 in
theorem Tryz.sortLen (n : Nat) (h : n ≤ 12) (W : World) : Calls Tryz.prog 147 #[.int .u64 n] W fun e W' => (∃ k : Int, e = .returned (.int .i64 k)) ∧ W' = W := by
  have mixed : Tryz.prog.follows .mixedOrders = true := by kernel_rfl
  have hb := Tryz.bits_Len64 (n : Int) W (by omega) (by omega)
  have hwr : IntKind.u64.wrap (n : Int) = (n : Int) := by rw [IntKind.wrap_u64]; omega
  have t4 := Tryz.underlying185; have t5 := Tryz.underlying168; have t6 := Tryz.underlying3
  go_enter Tryz.func147, Tryz.ntmps147
  go_wp2_with (go_at_call 172; refine Calls.mono hb ?_; rintro e W1 ⟨rfl, rfl⟩)
  go_ret
  exact ⟨⟨_, rfl⟩, rfl⟩

set_option maxRecDepth 100000 in
set_option maxHeartbeats 4000000 in
theorem Tryz.spdq (w0 W : World) (v : Value) (l : List Tm) (k : Int) (hL0 : Tryz.L w0) (hbw : Below w0.heap.size w0 W) (hown : W.ownsRow w0.heap.size 45 2 v l.length (tcs l)) (hlen : l.length ≤ 12)
    (hl : ∀ y ∈ l, rd y.1 ≤ 2000 ∧ dl (y.2 : Int) ≤ 200) :
    Calls Tryz.prog 146 #[v, .int .i64 0, .int .i64 l.length, .int .i64 k, .func (.func 125) #[] #[]] W fun e W' => e = .returned (.tuple #[]) ∧
      ∃ r : List Tm, r.Perm l ∧ (r.Pairwise fun x y => x.2 ≤ y.2) ∧ W'.ownsRow w0.heap.size 45 2 v l.length (tcs r) ∧ W.grownBy W' v.ownBlock ∧ Below w0.heap.size w0 W' := by
  have mixed : Tryz.prog.follows .mixedOrders = true := by kernel_rfl
  have t0 := Tryz.underlying24
  have t3 := Tryz.underlying4; have t4 := Tryz.underlying3
  have hi := Tryz.sinsertion w0 W v l hL0 hbw hown hlen hl
  have hle : (l.length : Int) ≤ 12 := by omega
  have hwr : IntKind.i64.wrap (l.length : Int) = (l.length : Int) := by rw [IntKind.wrap_i64]; omega
  have vsl : ∃ ad cap, v = .slice ad l.length cap := by
    rcases hown.2 with ⟨h1, h2⟩ | ⟨g, cap, cur, h1, _⟩
    · exact ⟨none, 0, by rw [h1, h2]⟩
    · exact ⟨_, _, h1⟩
  obtain ⟨ad, cap, rfl⟩ := vsl
  clear hl hown
  go_enter Tryz.func146, Tryz.ntmps146
  go_wp2
  refine wp_loop_rounds 1 ?_
  rw [rounds_succ]
  go_wp2_with (go_at_call 163; refine Calls.mono hi ?_; rintro e W1 ⟨rfl, h1⟩)
  (try simp only [Exit.inBlock, Exit.then]); refine bodyPost_ret (results_none rfl _ _ _) rfl ?_
  exact ⟨rfl, h1⟩

set_option maxRecDepth 100000 in
set_option maxHeartbeats 4000000 in
theorem Tryz.ssort (w0 W : World) (v : Value) (l : List Tm) (hL0 : Tryz.L w0) (hbw : Below w0.heap.size w0 W) (hown : W.ownsRow w0.heap.size 45 2 v l.length (tcs l)) (hlen : l.length ≤ 12)
    (hl : ∀ y ∈ l, rd y.1 ≤ 2000 ∧ dl (y.2 : Int) ≤ 200) :
    Calls Tryz.prog 124 #[v, .func (.func 125) #[] #[]] W fun e W' => e = .returned (.tuple #[]) ∧
      ∃ r : List Tm, r.Perm l ∧ (r.Pairwise fun x y => x.2 ≤ y.2) ∧ W'.ownsRow w0.heap.size 45 2 v l.length (tcs r) ∧ W.grownBy W' v.ownBlock ∧ Below w0.heap.size w0 W' := by
  have mixed : Tryz.prog.follows .mixedOrders = true := by kernel_rfl
  have t0 := Tryz.underlying25; have t1 := Tryz.underlying24
  have t3 := Tryz.underlying185; have t4 := Tryz.underlying3
  have hp := fun k => Tryz.spdq w0 W v l k hL0 hbw hown hlen hl
  have hn := Tryz.sortLen l.length hlen W
  have hwr : IntKind.u64.wrap (l.length : Int) = (l.length : Int) := by rw [IntKind.wrap_u64]; omega
  have vsl : ∃ ad cap, v = .slice ad l.length cap := by
    rcases hown.2 with ⟨h1, h2⟩ | ⟨g, cap, cur, h1, _⟩
    · exact ⟨none, 0, by rw [h1, h2]⟩
    · exact ⟨_, _, h1⟩
  obtain ⟨ad, cap, rfl⟩ := vsl
  clear hl hown
  go_enter Tryz.func124, Tryz.ntmps124
  go_wp2_with (first | (go_at_call 147; refine Calls.mono hn ?_; rintro e W1 ⟨⟨k, rfl⟩, rfl⟩) | (go_at_call 146; refine Calls.mono (hp _) ?_; rintro e W2 ⟨rfl, h1⟩))
  go_end0
  exact ⟨rfl, h1⟩
end Go.Proofs

/-
  SURD: sum by hand. Own work.
-/
namespace Go.Proofs
open Go Go.Pi Go.RowKit Go.Shelf Go.Ar

/-- all terms of a list of surds, each times its factor -/
def allT (k : Nat → Rat) : Nat → List (List Tm) → List Tm
  | _, [] => []
  | i, s :: ls => mulT (k i) s ++ allT k (i + 1) ls
theorem allT_app (k : Nat → Rat) : ∀ (l m : List (List Tm)) (i : Nat), allT k i (l ++ m) = allT k i l ++ allT k (i + l.length) m
  | [], m, i => rfl
  | s :: l, m, i => by
    show mulT (k i) s ++ allT k (i + 1) (l ++ m) = mulT (k i) s ++ allT k (i + 1) l ++ _
    rw [allT_app k l m (i + 1), List.append_assoc, List.length_cons, show i + 1 + l.length = i + (l.length + 1) by omega]
theorem allT_take {k : Nat → Rat} {ls : List (List Tm)} {i : Nat} {s : List Tm} (h : ls[i]? = some s) : allT k 0 (ls.take (i + 1)) = allT k 0 (ls.take i) ++ mulT (k i) s := by
  have hi := (List.getElem?_eq_some_iff.1 h).1
  rw [List.take_add_one, h]
  show allT k 0 (ls.take i ++ [s]) = _
  rw [allT_app, List.length_take, Nat.min_eq_left (by omega), Nat.zero_add]
  show _ ++ (mulT (k i) s ++ []) = _
  rw [List.append_nil]
theorem allT_split {k : Nat → Rat} {ls : List (List Tm)} {i : Nat} {s : List Tm} (h : ls[i]? = some s) : ∃ r, allT k 0 ls = allT k 0 (ls.take i) ++ mulT (k i) s ++ r := by
  refine ⟨allT k (0 + (ls.take (i + 1)).length) (ls.drop (i + 1)), ?_⟩
  rw [← allT_take h, ← allT_app, List.take_append_drop]
theorem allT_taken {k : Nat → Rat} {ls : List (List Tm)} {i j : Nat} {s : List Tm} (h : ls[i]? = some s) (hj : j ≤ s.length) : (allT k 0 ls).take ((allT k 0 (ls.take i)).length + j) = allT k 0 (ls.take i) ++ mulT (k i) (s.take j) ∧ (allT k 0 (ls.take i)).length + j ≤ (allT k 0 ls).length := by
  obtain ⟨r, e⟩ := allT_split (k := k) h
  have hm : (mulT (k i) s).length = s.length := by simp [mulT]
  constructor
  · rw [e, List.append_assoc, List.take_append, List.take_of_length_le (by omega), Nat.add_sub_cancel_left, List.take_append_of_le_length (by omega)]
    simp [mulT, List.map_take]
  · rw [e]; simp only [List.length_append]; omega
/-- a surd among the arguments -/
theorem rep_sg {S : Nat → Nat → Prop} {W : World} {l : List Tm} {u : Value} (h : Rep S W (sg l) u) : ∃ a cap, u = .slice a l.length cap ∧ ∀ j x, l[j]? = some x → ∃ b o, a = some ⟨b, o, none⟩ ∧
    (S b (o + j * 2) ∧ W.cell? ⟨b, o + j * 2, none⟩ = some (.string ⟨(rt x.1).toArray⟩)) ∧ (S b (o + (j * 2 + 1)) ∧ W.cell? ⟨b, o + (j * 2 + 1), none⟩ = some (.string ⟨(tz (x.2 : Int)).toArray⟩)) := by
  generalize hd : sg l = d at h
  cases h with
  | sl0 a cap hc =>
    simp only [sg, D.sl.injEq] at hd
    have hl : l.length = 0 := hd.1
    obtain rfl : l = [] := List.length_eq_zero_iff.1 hl
    exact ⟨a, cap, rfl, fun j x hx => by simp at hx⟩
  | slN => simp only [sg, D.sl.injEq] at hd; have h2 : (tms l).length = l.length * 2 := rows_length tD_len l; rw [hd.2, hd.1] at h2; simp at h2
  | sl n ds b off cap vs hl h1 hn hc hr hh =>
    simp only [sg, D.sl.injEq] at hd
    obtain ⟨rfl, rfl⟩ := hd
    refine ⟨_, cap, rfl, fun j x hx => ⟨b, off, rfl, ?_, ?_⟩⟩
    · obtain ⟨r, e0, e1⟩ := tms_drop hx
      have d0 : (tms l)[j * 2]? = some (.str (rt x.1)) := by
        have := congrArg (fun q : List D => q[0]?) e0
        simpa [List.getElem?_drop] using this
      have hlt := (List.getElem?_eq_some_iff.1 d0).1
      have hv : vs[j * 2]? = some (vs[j * 2]'(by omega)) := List.getElem?_eq_getElem (by omega)
      generalize vs[j * 2]'(by omega) = v at hv
      have hrep := hh _ _ _ d0 hv
      cases hrep
      exact hr _ _ hv
    · obtain ⟨r, e0, e1⟩ := tms_drop hx
      have d0 : (tms l)[j * 2 + 1]? = some (.str (tz (x.2 : Int))) := by
        have := congrArg (fun q : List D => q[0]?) e1
        simpa [List.getElem?_drop] using this
      have hlt := (List.getElem?_eq_some_iff.1 d0).1
      have hv : vs[j * 2 + 1]? = some (vs[j * 2 + 1]'(by omega)) := List.getElem?_eq_getElem (by omega)
      generalize vs[j * 2 + 1]'(by omega) = v at hv
      have hrep := hh _ _ _ d0 hv
      cases hrep
      exact hr _ _ hv
  | _ => cases hd
theorem rep_sgs {S : Nat → Nat → Prop} {W : World} {ls : List (List Tm)} {u : Value} (h : Rep S W (.sl ls.length (ls.map sg)) u) : ∃ a cap, u = .slice a ls.length cap ∧ ∀ i s, ls[i]? = some s → ∃ b o v, a = some ⟨b, o, none⟩ ∧
    S b (o + i) ∧ W.cell? ⟨b, o + i, none⟩ = some v ∧ Rep S W (sg s) v := by
  generalize hd : D.sl ls.length (ls.map sg) = d at h
  cases h with
  | sl0 a cap hc =>
    simp only [D.sl.injEq] at hd
    have hl : ls.length = 0 := hd.1
    obtain rfl : ls = [] := List.length_eq_zero_iff.1 hl
    exact ⟨a, cap, rfl, fun j x hx => by simp at hx⟩
  | slN =>
    simp only [D.sl.injEq] at hd
    have := congrArg List.length hd.2
    rw [List.length_map, hd.1] at this; simp at this
  | sl n ds b off cap vs hl h1 hn hc hr hh =>
    simp only [D.sl.injEq] at hd
    obtain ⟨rfl, rfl⟩ := hd
    refine ⟨_, cap, rfl, fun i s hs => ?_⟩
    have hlt := (List.getElem?_eq_some_iff.1 hs).1
    rw [List.length_map] at hl
    have hv : vs[i]? = some (vs[i]'(by omega)) := List.getElem?_eq_getElem (by omega)
    generalize vs[i]'(by omega) = v at hv
    exact ⟨b, off, v, rfl, (hr _ _ hv).1, (hr _ _ hv).2, hh i (sg s) v (by rw [List.getElem?_map, hs]; rfl) hv⟩
  | _ => cases hd
theorem enters_body {P : Program} {f : FuncId} (h : hasBody P f = true) : ∀ args w, (callFunc f args).run P w = .ok (.enter f args) w := by
  unfold hasBody at h
  split at h
  · rename_i fn hf
    simp only [Bool.and_eq_true, bne_iff_ne, ne_eq] at h
    obtain ⟨c, hc⟩ := Option.isSome_iff_exists.1 h.1
    exact enters_of hf (by simpa using h.2) hc
  · cases h

set_option maxRecDepth 100000 in
set_option maxHeartbeats 8000000 in
theorem Tryz.ssum {f : Nat} (k : Nat → Rat) (ls : List (List Tm)) (R : List Tm) (hls : ls.length ≤ 100) (hs : ∀ s ∈ ls, s.length ≤ 100 ∧ ∀ x ∈ s, rd x.1 ≤ 500 ∧ 0 < x.2 ∧ dl (x.2 : Int) ≤ 200)
    (hf : hasBody Tryz.prog f = true) (hk : ∀ i, i < ls.length → rd (k i) ≤ 100 ∧ Con Tryz.prog Tryz.L f [.int .i64 i] (.str (rt (k i))))
    (hacc : ∀ n, n ≤ (allT k 0 ls).length → (((allT k 0 ls).take n).foldl addL []).length ≤ 99 ∧ ∀ y ∈ ((allT k 0 ls).take n).foldl addL [], rd y.1 ≤ 2000 ∧ 0 < y.2 ∧ dl (y.2 : Int) ≤ 200)
    (hfin : (((allT k 0 ls).foldl addL []).filter fun x => !decide (x.1 = 0)).length ≤ 12)
    (hR : ∀ r : List Tm, r.Perm (((allT k 0 ls).foldl addL []).filter fun x => !decide (x.1 = 0)) → (r.Pairwise fun x y => x.2 ≤ y.2) → r = R) :
    Con Tryz.prog Tryz.L 81 [.sl ls.length (ls.map sg), .clo f []] (sg R) := by
  refine ⟨⟨by kernel_rfl, rfl⟩, fun S W vs hS hL hreps => ?_⟩
  obtain ⟨u0, _, rfl, hu0, hreps⟩ := hreps.uncons
  obtain ⟨u1, _, rfl, hu1, hreps⟩ := hreps.uncons
  obtain rfl := List.length_eq_zero_iff.1 hreps.1.symm
  obtain rfl : u1 = .func (.func f) #[] #[] := by
    cases hu1 with
    | clo _ _ vs hl _ =>
      obtain rfl : vs = [] := List.length_eq_zero_iff.1 hl.symm
      rfl
  obtain ⟨ad0, cap0, rfl, hel⟩ := rep_sgs hu0
  clear hreps hu1 hu0
  have eg := enters_body hf
  have mixed : Tryz.prog.follows .mixedOrders = true := by kernel_rfl
  have t0 := Tryz.underlying25; have a0 := Tryz.isAgg25; have z0 := Tryz.sizeOf25; have v0 := Tryz.zeroValue25; have u0 := run_underlying Tryz.underlying25
  have t1 := Tryz.underlying45; have a1 := Tryz.isAgg45; have z1 := Tryz.sizeOf45; have v1 := Tryz.zeroValue45; have u1 := run_underlying Tryz.underlying45
  have t2 := Tryz.underlying73; have a2 := Tryz.isAgg73; have z2 := Tryz.sizeOf73; have v2 := Tryz.zeroValue73; have u2 := run_underlying Tryz.underlying73
  have t4 := Tryz.underlying3; have a4 := Tryz.isAgg3; have z4 := Tryz.sizeOf3; have v4 := Tryz.zeroValue3; have u4 := run_underlying Tryz.underlying3
  have t6 := Tryz.underlying22; have a6 := Tryz.isAgg22; have z6 := Tryz.sizeOf22; have v6 := Tryz.zeroValue22; have u6 := run_underlying Tryz.underlying22
  have t7 := Tryz.underlying35; have a7 := Tryz.isAgg35; have z7 := Tryz.sizeOf35; have v7 := Tryz.zeroValue35; have u7 := run_underlying Tryz.underlying35
  have HS : Hid (∀ s ∈ ls, s.length ≤ 100 ∧ ∀ x ∈ s, rd x.1 ≤ 500 ∧ 0 < x.2 ∧ dl (x.2 : Int) ≤ 200) := hs
  have HK : Hid (∀ i, i < ls.length → rd (k i) ≤ 100 ∧ Con Tryz.prog Tryz.L f [.int .i64 i] (.str (rt (k i)))) := hk
  have HA : Hid (∀ n, n ≤ (allT k 0 ls).length → (((allT k 0 ls).take n).foldl addL []).length ≤ 99 ∧ ∀ y ∈ ((allT k 0 ls).take n).foldl addL [], rd y.1 ≤ 2000 ∧ 0 < y.2 ∧ dl (y.2 : Int) ≤ 200) := hacc
  have HF : Hid ((((allT k 0 ls).foldl addL []).filter fun x => !decide (x.1 = 0)).length ≤ 12) := hfin
  have HR : Hid (∀ r : List Tm, r.Perm (((allT k 0 ls).foldl addL []).filter fun x => !decide (x.1 = 0)) → (r.Pairwise fun x y => x.2 ≤ y.2) → r = R) := hR
  have HE : Hid (∀ i s, ls[i]? = some s → ∃ b o v, ad0 = some ⟨b, o, none⟩ ∧ S b (o + i) ∧ W.cell? ⟨b, o + i, none⟩ = some v ∧ Rep S W (sg s) v) := hel
  have HB : Hid (∀ b j, S b j → b < W.heap.size) := hS
  clear hs hk hacc hfin hR hel hf hS
  show Calls Tryz.prog 81 #[_, _] W _
  go_enter Tryz.func81, Tryz.ntmps81
  go_wp2
  go_loopg [5, 12] ls.length (fun g1 so vi wr => ∃ (i : Nat) (l : List Tm), vi = .int .i64 i ∧ i ≤ ls.length ∧ ls.length ≤ g1 + i ∧ Hid (l = (allT k 0 (ls.take i)).foldl addL []) ∧ wr.ownsRow W.heap.size 45 2 so l.length (tcs l) ∧ Below W.heap.size W wr)
  case atStart => exact ⟨0, [], rfl, by omega, by omega, rfl, World.ownsRow_nil _ _ _ _, Below.refl _ _⟩
  case round =>
    obtain ⟨i, l, rfl, hi, hg1, HL, hwr, hbr⟩ := hrel
    by_cases hlt : i < ls.length
    · have hltz : (i : Int) < (ls.length : Int) := by omega
      have hsi : ls[i]? = some (ls[i]'hlt) := List.getElem?_eq_getElem hlt
      generalize ls[i]'hlt = s at hsi
      obtain ⟨b, o, us, rfl, hSb, hcl, hrs⟩ := HE.out i s hsi
      have hcl2 : wr.cell? ⟨b, o + i, none⟩ = some us := (hbr.cell (HB.out _ _ hSb)).trans hcl
      obtain ⟨adS, capS, rfl, het⟩ := rep_sg hrs
      have HT : Hid (∀ j x, s[j]? = some x → ∃ b o, adS = some ⟨b, o, none⟩ ∧ (S b (o + j * 2) ∧ W.cell? ⟨b, o + j * 2, none⟩ = some (.string ⟨(rt x.1).toArray⟩)) ∧ (S b (o + (j * 2 + 1)) ∧ W.cell? ⟨b, o + (j * 2 + 1), none⟩ = some (.string ⟨(tz (x.2 : Int)).toArray⟩))) := het
      have HI : Hid (ls[i]? = some s) := hsi
      have hs100 := (HS.out s (List.mem_of_getElem? hsi)).1
      clear het hsi hcl hrs
      go_wp2
      go_loopg [5, 19] s.length (fun g2 so vj wr2 => ∃ (j : Nat) (m : List Tm), vj = .int .i64 j ∧ j ≤ s.length ∧ s.length ≤ g2 + j ∧ Hid (m = (allT k 0 (ls.take i) ++ mulT (k i) (s.take j)).foldl addL []) ∧ wr2.ownsRow W.heap.size 45 2 so m.length (tcs m) ∧ Below W.heap.size W wr2)
      case atStart => exact ⟨0, l, rfl, by omega, by omega, (show Hid _ from by show l = _; rw [HL.out, List.take_zero]; simp [mulT]), hwr, hbr⟩
      case round =>
        clear hwr hbr
        obtain ⟨j, m, rfl, hj, hg2, HM, hwm, hbm⟩ := hrel
        by_cases hjs : j < s.length
        · have hjz : (j : Int) < (s.length : Int) := by omega
          have hx : s[j]? = some (s[j]'hjs) := List.getElem?_eq_getElem hjs
          generalize s[j]'hjs = x at hx
          obtain ⟨b2, o2, rfl, ⟨hS1, hc1⟩, ⟨hS2, hc2⟩⟩ := HT.out j x hx
          have cA : wr.cell? ⟨b2, o2 + j * 2, none⟩ = some (.string ⟨(rt x.1).toArray⟩) := (hbm.cell (HB.out _ _ hS1)).trans hc1
          have cB : wr.cell? ⟨b2, o2 + j * 2 + 1, none⟩ = some (.string ⟨(tz (x.2 : Int)).toArray⟩) := (hbm.cell (HB.out _ _ hS2)).trans hc2
          obtain ⟨x1, x2, x3⟩ := (HS.out s (List.mem_of_getElem? HI.out)).2 x (List.mem_of_getElem? hx)
          obtain ⟨k1, k2⟩ := HK.out i hlt
          have hmb : m.length ≤ 99 ∧ ∀ y ∈ m, rd y.1 ≤ 2000 ∧ 0 < y.2 ∧ dl (y.2 : Int) ≤ 200 := by
            obtain ⟨q1, q2⟩ := allT_taken (k := k) HI.out hj
            have := HA.out _ q2
            rw [q1, ← HM.out] at this
            exact this
          have HMB : Hid (m.length ≤ 99 ∧ ∀ y ∈ m, rd y.1 ≤ 2000 ∧ 0 < y.2 ∧ dl (y.2 : Int) ≤ 200) := hmb
          have HX : Hid (s[j]? = some x) := hx
          have hrd := rd_mul x.1 (k i)
          have hgm := hwm.lt
          have hszm := hbm.size
          clear hS1 hc1 hS2 hc2 hx hmb
          go_wp2
          have hU : (wr.alloc (.cells #[.string ⟨(rt x.1).toArray⟩, .string ⟨(tz (x.2 : Int)).toArray⟩] 45)).heap[wr.heap.size]? = some (.cells #[.string ⟨(rt x.1).toArray⟩, .string ⟨(tz (x.2 : Int)).toArray⟩] 45 (0, 0)) := World.alloc_heap_new _ _
          have hBa : Below W.heap.size W (wr.alloc (.cells #[.string ⟨(rt x.1).toArray⟩, .string ⟨(tz (x.2 : Int)).toArray⟩] 45)) := hbm.alloc hszm _
          have hwa := hwm.alloc (.cells #[.string ⟨(rt x.1).toArray⟩, .string ⟨(tz (x.2 : Int)).toArray⟩] 45)
          generalize (wr.alloc (.cells #[.string ⟨(rt x.1).toArray⟩, .string ⟨(tz (x.2 : Int)).toArray⟩] 45)) = V at *
          have hBV : Below W.heap.size W V.drew := hBa.drew
          have hUV : V.drew.heap[wr.heap.size]? = some (.cells #[.string ⟨(rt x.1).toArray⟩, .string ⟨(tz (x.2 : Int)).toArray⟩] 45 (0, 0)) := hU
          have hwV := hwa.drew
          obtain ⟨cu, cu'⟩ := cells2 hU
          obtain ⟨cv, cv'⟩ := cells2 hUV
          clear cA cB hwm hbm hBa hwa hU
          go_region_held3 (fun w' => w'.cell? ⟨wr.heap.size, 0, none⟩ = some (.string ⟨(rt x.1).toArray⟩) ∧ w'.cell? ⟨wr.heap.size, 1, none⟩ = some (.string ⟨(tz (x.2 : Int)).toArray⟩)) (go_keep)
            (first
              | (go_at_fn f; refine Calls.mono (k2.2 (fun _ _ => False) _ [.int .i64 i] (fun _ _ h => h.elim) (Tryz.hL W _ hL hBV) (Reps.cons (.int _ _) .nil)) ?_; rintro e W5 ⟨v5, rfl, hb5, hr5⟩; obtain rfl : v5 = .string ⟨(rt (k i)).toArray⟩ := (by cases hr5; rfl); clear hr5; have hU5 := below_heap hb5 hUV; have hB5 := hBV.grown (gb_below (r := none) hb5) hBV.size (fun k hk => by cases hk); have hw5 := hwV.kept (gb_below (r := none) hb5) (by generalize Value.ownBlock _ = q; cases q <;> simp); obtain ⟨c5, c5'⟩ := cells2 hU5; clear hb5)
              | (go_at_call 74; refine Calls.mono ((Tryz.rmul x.1 (k i) (by omega) (by omega)).2 (fun _ _ => False) _ [.string ⟨(rt x.1).toArray⟩, .string ⟨(rt (k i)).toArray⟩] (fun _ _ h => h.elim) (Tryz.hL W _ hL hB5) (Reps.cons (.str _ (by have := rt_len x.1; unfold maxLen; omega)) (Reps.cons (.str _ (by have := rt_len (k i); unfold maxLen; omega)) .nil))) ?_; rintro e W6 ⟨v6, rfl, hb6, hr6⟩; obtain rfl : v6 = .string ⟨(rt (x.1 * k i)).toArray⟩ := (by cases hr6; rfl); clear hr6; have hU6 := below_heap hb6 hU5; have hB6 := hB5.grown (gb_below (r := none) hb6) hB5.size (fun k hk => by cases hk); have hw6 := hw5.kept (gb_below (r := none) hb6) (by generalize Value.ownBlock _ = q; cases q <;> simp); obtain ⟨c6, c6'⟩ := cells2 hU6; clear hb6)
              | (go_at_call 121; refine Calls.mono (Tryz.sadd W _ _ m (x.1 * k i, x.2) hL hB6 hw6 (by have := HMB.out.1; omega) HMB.out.2 ⟨by show rd (x.1 * k i) ≤ 2000; omega, x2, x3⟩) ?_; rintro e W7 ⟨v7, rfl, hw7, hg7, hB7⟩; have c7 := hg7.cell c6 (fun h => by have := (hgm _ h.symm).2; exact Nat.lt_irrefl _ this); have c7' := hg7.cell c6' (fun h => by have := (hgm _ h.symm).2; exact Nat.lt_irrefl _ this); clear hg7))
          all_goals go_wp2_with fail
          all_goals go_roundg (s.length - (j + 1))
          case measure => omega
          case rel =>
            refine ⟨j + 1, addL m (x.1 * k i, x.2), by go_num, by omega, by omega, (show Hid _ from ?_), hw7, hB7⟩
            show addL m (x.1 * k i, x.2) = _
            rw [HM.out, take_snoc HX.out]
            simp [mulT, List.foldl_append]
        · obtain rfl : j = s.length := by omega
          have hjz : ¬ (s.length : Int) < (s.length : Int) := by omega
          go_wp2
          go_roundg (ls.length - (i + 1))
          case measure => omega
          case rel => exact ⟨i + 1, m, by go_num, by omega, by omega, (show Hid _ from by show m = _; rw [HM.out, List.take_length, allT_take HI.out]), hwm, hbm⟩
    · obtain rfl : i = ls.length := by omega
      have hltz : ¬ (ls.length : Int) < (ls.length : Int) := by omega
      have HL2 : Hid (l = (allT k 0 ls).foldl addL []) := by have := HL.out; rw [List.take_length] at this; exact this
      have hb := HA.out _ (Nat.le_refl _)
      rw [List.take_length, ← HL2.out] at hb
      have HBD : Hid (l.length ≤ 99 ∧ ∀ y ∈ l, rd y.1 ≤ 2000 ∧ 0 < y.2 ∧ dl (y.2 : Int) ≤ 200) := hb
      have hd := Tryz.sdeleteO W wr _ l hL hbr hwr (by omega) (fun y hy => ⟨(hb.2 y hy).1, (hb.2 y hy).2.2⟩)
      clear hb HL
      go_wp2_with (first
        | (go_at_call 122; refine Calls.mono hd ?_; rintro e W2 ⟨v2, rfl, hw2, hg2, hb2⟩; have hst := Tryz.ssort W W2 v2 _ hL hb2 hw2 (by rw [HL2.out]; exact HF.out) (fun y hy => have hm := (List.mem_filter.1 hy).1; ⟨(HBD.out.2 y hm).1, (HBD.out.2 y hm).2.2⟩); clear hw2 hb2 hg2)
        | (go_at_call 124; refine Calls.mono hst ?_; rintro e W3 ⟨rfl, r, hp, hsrt, hw3, hg3, hb3⟩))
      go_ret
      rw [HL2.out] at hp
      obtain rfl := HR.out r hp hsrt
      rw [HL2.out, ← hp.length_eq] at hw3
      refine ⟨v2, rfl, hb3, rep_ownS hw3 (fun y hy => ?_) fun g j h1 h2 => .inr ⟨h1, h2⟩⟩
      have hm := (List.mem_filter.1 (hp.mem_iff.1 hy)).1
      rw [← HL2.out] at hm
      exact ⟨(HBD.out.2 y hm).1, (HBD.out.2 y hm).2.2⟩
end Go.Proofs

/-
  SURD: the program's sum of a list is the reference's. Own work.
-/
namespace Go.Proofs
open Go Go.Pi Go.RowKit Go.Ar

theorem addL_cases (x : Tm) : ∀ (l : List Tm), ((∀ u ∈ l, ¬isq (u.2 * x.2)) ∧ addL l x = l ++ [x]) ∨ ∃ l1 u l2, l = l1 ++ u :: l2 ∧ isq (u.2 * x.2) ∧ addL l x = l1 ++ mrg u x :: l2
  | [] => .inl ⟨fun u hu => (by cases hu), rfl⟩
  | y :: l => by
    by_cases h : isq (y.2 * x.2)
    · exact .inr ⟨[], y, l, rfl, h, if_pos h⟩
    · have e : addL (y :: l) x = y :: addL l x := if_neg h
      rcases addL_cases x l with ⟨h1, h2⟩ | ⟨l1, u, l2, h1, h2, h3⟩
      · refine .inl ⟨fun u hu => ?_, by rw [e, h2]; rfl⟩
        rcases List.mem_cons.1 hu with rfl | hu
        · exact h
        · exact h1 u hu
      · exact .inr ⟨y :: l1, u, l2, by rw [h1]; rfl, h2, by rw [e, h3]; rfl⟩
/-- two alike terms as one -/
theorem mrg_spec {u t : Tm} (hu : u.2 ∈ R10) (ht : t.2 ∈ R10) (h : (bs u.2).1 = (bs t.2).1) :
    (mrg u t).2 ∈ R10 ∧ (bs (mrg u t).2).1 = (bs u.2).1 ∧ (mrg u t).1 * ((bs (mrg u t).2).2 : Rat) = u.1 * ((bs u.2).2 : Rat) + t.1 * ((bs t.2).2 : Rat) ∧ (mrg u t).2 ≤ u.2 ∧ (mrg u t).2 ≤ t.2 ∧ ((mrg u t).2 = u.2 ∨ (mrg u t).2 = t.2) := by
  unfold mrg
  split
  · rename_i hlt
    refine ⟨ht, h.symm, ?_, by show t.2 ≤ u.2; omega, Nat.le_refl _, .inr rfl⟩
    have := r10_root hu ht h
    show (t.1 + u.1 * mkRat (nrt (u.2 * t.2)) t.2) * ((bs t.2).2 : Rat) = _
    rw [← this]; grind
  · rename_i hlt
    refine ⟨hu, rfl, ?_, Nat.le_refl _, by show u.2 ≤ t.2; omega, .inl rfl⟩
    have := r10_root ht hu h.symm
    rw [Nat.mul_comm] at this
    show (u.1 + t.1 * mkRat (nrt (u.2 * t.2)) u.2) * ((bs u.2).2 : Rat) = _
    rw [← this]; grind
/-- what a sum keeps -/
structure Pre (all l : List Tm) : Prop where
  rad : inR l
  cls : l.Pairwise fun x y => (bs x.2).1 ≠ (bs y.2).1
  val : ∀ b, vlB b l = vlB b all
  low : ∀ y ∈ l, (∃ x ∈ all, x.2 = y.2) ∧ ∀ x ∈ all, (bs x.2).1 = (bs y.2).1 → y.2 ≤ x.2
theorem Pre.nil : Pre [] [] := ⟨fun x hx => (by cases hx), .nil, fun _ => rfl, fun x hx => (by cases hx)⟩
theorem Pre.step {all l : List Tm} (h : Pre all l) (hall : ∀ x ∈ all, ∃ y ∈ l, (bs y.2).1 = (bs x.2).1) {x : Tm} (hx : x.2 ∈ R10) :
    Pre (all ++ [x]) (addL l x) ∧ ∀ z ∈ all ++ [x], ∃ y ∈ addL l x, (bs y.2).1 = (bs z.2).1 := by
  rcases addL_cases x l with ⟨h1, h2⟩ | ⟨l1, u, l2, h1, h2, h3⟩
  · rw [h2]
    have hn : ∀ u ∈ l, (bs u.2).1 ≠ (bs x.2).1 := fun u hu e => h1 u hu ((r10_sq (h.rad u hu) hx).2 e)
    refine ⟨⟨fun y hy => ?_, ?_, fun b => ?_, fun y hy => ?_⟩, fun z hz => ?_⟩
    · rcases List.mem_append.1 hy with hy | hy
      · exact h.rad y hy
      · rw [List.mem_singleton.1 hy]; exact hx
    · refine List.pairwise_append.2 ⟨h.cls, List.pairwise_singleton _ _, fun a ha b hb => ?_⟩
      rw [List.mem_singleton.1 hb]; exact hn a ha
    · rw [vlB_app, vlB_app, h.val]
    · rcases List.mem_append.1 hy with hy | hy
      · obtain ⟨⟨z, hz, e⟩, h4⟩ := h.low y hy
        refine ⟨⟨z, List.mem_append_left _ hz, e⟩, fun w hw he => ?_⟩
        rcases List.mem_append.1 hw with hw | hw
        · exact h4 w hw he
        · rw [List.mem_singleton.1 hw] at he; exact absurd he.symm (hn y hy)
      · have ey := List.mem_singleton.1 hy
        subst ey
        refine ⟨⟨y, List.mem_append_right _ hy, rfl⟩, fun w hw he => ?_⟩
        rcases List.mem_append.1 hw with hw | hw
        · obtain ⟨v, hv, e⟩ := hall w hw
          exact absurd (e.trans he) (hn v hv)
        · rw [List.mem_singleton.1 hw]; exact Nat.le_refl _
    · rcases List.mem_append.1 hz with hz | hz
      · obtain ⟨y, hy, e⟩ := hall z hz
        exact ⟨y, List.mem_append_left _ hy, e⟩
      · exact ⟨x, List.mem_append_right _ (List.mem_singleton_self x), by rw [List.mem_singleton.1 hz]⟩
  · have hul : u ∈ l := by rw [h1]; simp
    have hu := h.rad u hul
    have hc := (r10_sq hu hx).1 h2
    obtain ⟨m1, m2, m3, m4, m5, m6⟩ := mrg_spec hu hx hc
    rw [h3]
    generalize mrg u x = m at *
    have hcl := h.cls
    rw [h1, List.pairwise_append] at hcl
    obtain ⟨c1, c2, c3⟩ := hcl
    obtain ⟨c4, c5⟩ := List.pairwise_cons.1 c2
    have hmem : ∀ y, y ∈ l1 ++ m :: l2 → y = m ∨ (y ∈ l ∧ (bs y.2).1 ≠ (bs u.2).1) := by
      intro y hy
      rcases List.mem_append.1 hy with hy | hy
      · exact .inr ⟨by rw [h1]; exact List.mem_append_left _ hy, c3 y hy u (List.mem_cons_self ..)⟩
      · rcases List.mem_cons.1 hy with rfl | hy
        · exact .inl rfl
        · exact .inr ⟨by rw [h1]; exact List.mem_append_right _ (List.mem_cons_of_mem _ hy), (c4 y hy).symm⟩
    refine ⟨⟨fun y hy => ?_, ?_, fun b => ?_, fun y hy => ?_⟩, fun z hz => ?_⟩
    · rcases hmem y hy with rfl | hy
      · exact m1
      · exact h.rad y hy.1
    · refine List.pairwise_append.2 ⟨c1, List.pairwise_cons.2 ⟨fun a ha => by rw [m2]; exact c4 a ha, c5⟩, fun a ha b hb => ?_⟩
      rcases List.mem_cons.1 hb with rfl | hb
      · rw [m2]; exact c3 a ha u (List.mem_cons_self ..)
      · exact c3 a ha b (List.mem_cons_of_mem _ hb)
    · rw [vlB_app, vlB_app b all, ← h.val b, h1, vlB_app]
      show _ + ((if (bs m.2).1 = b then m.1 * ((bs m.2).2 : Rat) else 0) + vlB b l2) = _ + ((if (bs u.2).1 = b then u.1 * ((bs u.2).2 : Rat) else 0) + vlB b l2) + ((if (bs x.2).1 = b then x.1 * ((bs x.2).2 : Rat) else 0) + 0)
      rw [m2, m3, ← hc]
      split <;> grind
    · rcases hmem y hy with rfl | ⟨hy, hne⟩
      · refine ⟨?_, fun w hw he => ?_⟩
        · rcases m6 with e | e
          · obtain ⟨⟨z, hz, e2⟩, _⟩ := h.low u hul
            exact ⟨z, List.mem_append_left _ hz, e2.trans e.symm⟩
          · exact ⟨x, List.mem_append_right _ (List.mem_singleton_self x), e.symm⟩
        · rcases List.mem_append.1 hw with hw | hw
          · have := (h.low u hul).2 w hw (he.trans m2); omega
          · rw [List.mem_singleton.1 hw]; exact m5
      · obtain ⟨⟨z, hz, e⟩, h4⟩ := h.low y hy
        refine ⟨⟨z, List.mem_append_left _ hz, e⟩, fun w hw he => ?_⟩
        rcases List.mem_append.1 hw with hw | hw
        · exact h4 w hw he
        · rw [List.mem_singleton.1 hw, ← hc] at he; exact absurd he.symm hne
    · have hm : m ∈ l1 ++ m :: l2 := by simp
      rcases List.mem_append.1 hz with hz | hz
      · obtain ⟨y, hy, e⟩ := hall z hz
        rw [h1] at hy
        rcases List.mem_append.1 hy with hy | hy
        · exact ⟨y, List.mem_append_left _ hy, e⟩
        · rcases List.mem_cons.1 hy with rfl | hy
          · exact ⟨m, hm, m2.trans e⟩
          · exact ⟨y, List.mem_append_right _ (List.mem_cons_of_mem _ hy), e⟩
      · rw [List.mem_singleton.1 hz]; exact ⟨m, hm, m2.trans hc⟩
theorem sorted_ext : ∀ {l m : List Tm}, (l.Pairwise fun x y => x.2 < y.2) → (m.Pairwise fun x y => x.2 < y.2) → (∀ x, x ∈ l ↔ x ∈ m) → l = m
  | [], m, _, _, h => by
    match m with
    | [] => rfl
    | y :: m => exact absurd ((h y).2 (List.mem_cons_self ..)) (by simp)
  | x :: l, [], _, _, h => absurd ((h x).1 (List.mem_cons_self ..)) (by simp)
  | x :: l, y :: m, hl, hm, h => by
    obtain ⟨l1, l2⟩ := List.pairwise_cons.1 hl
    obtain ⟨m1, m2⟩ := List.pairwise_cons.1 hm
    have e : x = y := by
      rcases List.mem_cons.1 ((h x).1 (List.mem_cons_self ..)) with e | hx
      · exact e
      · rcases List.mem_cons.1 ((h y).2 (List.mem_cons_self ..)) with e | hy
        · exact e.symm
        · have := l1 y hy; have := m1 x hx; omega
    subst e
    congr 1
    refine sorted_ext l2 m2 fun z => ⟨fun hz => ?_, fun hz => ?_⟩
    · rcases List.mem_cons.1 ((h z).1 (List.mem_cons_of_mem _ hz)) with rfl | hz2
      · exact absurd (l1 z hz) (Nat.lt_irrefl _)
      · exact hz2
    · rcases List.mem_cons.1 ((h z).2 (List.mem_cons_of_mem _ hz)) with rfl | hz2
      · exact absurd (m1 z hz) (Nat.lt_irrefl _)
      · exact hz2
end Go.Proofs

/-
  SURD: Sum, difference, Add, Sub, Compare, Equal, the reference's Sign as contracts, for the law's surds. Own work.
-/
namespace Go.Proofs
open Go Go.Pi Go.RowKit Go.Ar

theorem mulT_one (a : List Tm) : mulT 1 a = a := by
  unfold mulT
  have : (fun x : Tm => (x.1 * 1, x.2)) = id := funext fun x => by rw [Rat.mul_one]; rfl
  rw [this, List.map_id]
/-- a term's value in twelfths -/
def tv (B : Nat) (x : Tm) : Prop := x.2 ∈ R10 ∧ ∃ M : Int, M.natAbs ≤ B ∧ x.1 * ((bs x.2).2 : Rat) * 12 = (M : Rat)
theorem Mk.tv {t : Nat} {a : List Tm} (h : Mk t a) : ∀ x ∈ a, tv (2400 * t) x := by
  intro x hx
  obtain ⟨M, h1, h2⟩ := h.val (bs x.2).1
  exact ⟨h.can.rad x hx, M, h1, by rw [h.can.val hx]; exact h2⟩
def kD (i : Nat) : Rat := if i = 0 then 1 else -1
theorem rt_neg1 : rt (-1) = [45, 49] := by
  refine (rt_z (-1)).trans ?_
  rw [tz_nat, if_pos (by decide), show (-1 : Int).natAbs = 1 from rfl, show dd 1 = [49] from dd_small (by decide)]
theorem Tryz.sfSign (i : Nat) (hi : i < 2) : Con Tryz.prog Tryz.L 120 [.int .i64 i] (.str (rt (kD i))) := by
  have e : rt (kD i) = if i = 0 then [49] else [45, 49] := by
    unfold kD
    split
    · exact one_txt
    · exact rt_neg1
  rw [e]
  refine rule120 Tryz.hL rfl rfl rfl ?_
  (simp only [pc120, rs120, oU, oC]; refine ev ?_; try with_reducible exact trivial)
  rcases show i = 0 ∨ i = 1 by omega with rfl | rfl
  · refine ⟨⟨by decide, by decide, by decide⟩, ?_⟩
    simp only [List.drop, evX, evY, evZ, forall_const, implies_true, initE, stepF, D.clean, mvF, moF, tkF, shF, ariF, ciF, catF, scF, ebF, eqF, eqOk, eqPr, enF, notF, ngF, cvF, csF, csbF, lenF, lenSF, ixF, iaF, PX.slot, iaAF, faF, ldF, D.mem, stF, bxF, mkSF, boundF, fldF, mmF2, D.plain, D.isPure, optAll, D.dull, callVF, splice, D.cells, D.one, sets, resT, D.flat, D.flat0, D.simple, Nat.reduceBNe, Nat.reduceLT, reduceIte, Nat.reduceEqDiff, Nat.reduceAdd, Nat.reduceMul, Nat.reduceSub, Nat.reduceLeDiff, Int.reduceToNat, Int.reduceLT, Int.reduceLE, Int.reduceEq, Int.reduceNeg, Int.reduceSub, Int.reduceAdd, Int.reduceMul, stG_own]
  · refine ⟨⟨by decide, by decide, by decide⟩, ?_⟩
    simp only [List.drop, evX, evY, evZ, forall_const, implies_true, initE, stepF, D.clean, mvF, moF, tkF, shF, ariF, ciF, catF, scF, ebF, eqF, eqOk, eqPr, enF, notF, ngF, cvF, csF, csbF, lenF, lenSF, ixF, iaF, PX.slot, iaAF, faF, ldF, D.mem, stF, bxF, mkSF, boundF, fldF, mmF2, D.plain, D.isPure, optAll, D.dull, callVF, splice, D.cells, D.one, sets, resT, D.flat, D.flat0, D.simple, Nat.reduceBNe, Nat.reduceLT, reduceIte, Nat.reduceEqDiff, Nat.reduceAdd, Nat.reduceMul, Nat.reduceSub, Nat.reduceLeDiff, Int.reduceToNat, Int.reduceLT, Int.reduceLE, Int.reduceEq, Int.reduceNeg, Int.reduceSub, Int.reduceAdd, Int.reduceMul, stG_own]

theorem ldC_sgs {ls : List (List Tm)} {i t : Nat} {s : List Tm} (h : ls[i]? = some s) {N : EP} {E : Env} : ldC false 1 (List.take 1 (List.drop i (ls.map sg))) t N E = N (st1 E t (sg s)) := by
  have e : List.drop i (ls.map sg) = sg s :: List.drop (i + 1) (ls.map sg) := dropc (by rw [List.getElem?_map, h]; rfl)
  rw [e]; simp [ldC, ofCells, D.one]
theorem Tryz.scheckAll (ls : List (List Tm)) (hl : ls.length ≤ 1000) (h : ∀ s ∈ ls, SOk s) : Con Tryz.prog Tryz.L 75 [.sl ls.length (ls.map sg)] (.int .i64 0) := by
  refine rule75 Tryz.hL rfl rfl rfl ?_
  (simp only [pc75, rs75, oU, oC]; refine ev ?_; try with_reducible exact trivial)
  refine loopF_of (fun E => ∃ k : Nat, k ≤ ls.length ∧ E = [(6, .sl ls.length (ls.map sg)), (7, .int .i64 ls.length), (8, .int .i64 k)])
    (fun E => match lk E 8 with | .int _ i => ls.length - i.toNat | _ => 0) ⟨0, Nat.zero_le _, rfl⟩ ?_
  rintro _ ⟨k, hk, rfl⟩
  (refine ev ?_; try with_reducible exact trivial)
  intro h3
  have hx : ls[k]? = some (ls[k]'(by omega)) := List.getElem?_eq_getElem (by omega)
  generalize ls[k]'(by omega) = s at hx
  refine ⟨⟨by omega, by omega, by rw [List.length_map]; omega⟩, ?_⟩
  rw [ldC_sgs hx]
  (refine ev ?_; try with_reducible exact trivial)
  refine callF_of (Tryz.check s (h s (List.mem_of_getElem? hx))) ?_
  (refine ev ?_; try with_reducible exact trivial)
  exact ⟨by omega, ⟨k + 1, by omega, by simp⟩, by omega⟩
/-- a surd of the law, as an argument -/
structure Sd (t : Nat) (a : List Tm) : Prop where
  wf : Mk t a
  le : t ≤ 18
theorem Sd.ok {t : Nat} {a : List Tm} (h : Sd t a) : SOk a := h.wf.ok (by have := h.le; omega)
theorem Sd.tv {t : Nat} {a : List Tm} (h : Sd t a) : ∀ x ∈ a, tv 43200 x := fun x hx => by
  obtain ⟨h0, M, h1, h2⟩ := h.wf.tv x hx
  exact ⟨h0, M, by have := h.le; have := Nat.mul_le_mul_left 2400 this; omega, h2⟩
end Go.Proofs

/-
  SURD: Add, Sub for the law's surds. Own work.
-/
namespace Go.Proofs
open Go Go.Pi Go.RowKit Go.Ar

theorem inR_app {a b : List Tm} (ha : inR a) (hb : inR b) : inR (a ++ b) := fun x hx => (List.mem_append.1 hx).elim (ha x) (hb x)
theorem Mk.join {s t : Nat} {a b : List Tm} (ha : Mk s a) (hb : Mk t b) : Mk (s + t) (joinL (a ++ b)) := by
  obtain ⟨c, hv⟩ := joinL_can (inR_app ha.can.rad hb.can.rad)
  refine ⟨c, ?_, fun q => ?_⟩
  · have := joinL_len (a ++ b); have := ha.len; have := hb.len
    rw [List.length_append] at *; omega
  · obtain ⟨M, h1, h2⟩ := ha.val q
    obtain ⟨N, h3, h4⟩ := hb.val q
    refine ⟨M + N, by omega, ?_⟩
    rw [hv, vlB_app, Rat.intCast_add, ← h2, ← h4]; grind
theorem Mk.le {s t : Nat} {a : List Tm} (h : Mk s a) (hst : s ≤ t) : Mk t a := ⟨h.can, Nat.le_trans h.len hst, fun b => by obtain ⟨M, h1, h2⟩ := h.val b; exact ⟨M, by have := Nat.mul_le_mul_left 2400 hst; omega, h2⟩⟩
theorem Sd.up {s : Nat} {a : List Tm} (h : Sd s a) : Sd 18 a := ⟨h.wf.le h.le, Nat.le_refl _⟩
theorem mulT_len (k : Rat) (a : List Tm) : (mulT k a).length = a.length := by simp [mulT]

end Go.Proofs

/-
  SURD: Equal, Same, plain. Own work.
-/
namespace Go.Proofs
open Go Go.Pi Go.RowKit Go.Ar

theorem Tryz.ssame (l : List Tm) (hl : l.length ≤ 1000) : Con Tryz.prog Tryz.L 40 [sg l, sg l] (.bool true) := by
  have h : Con Tryz.prog Tryz.L 83 [sg l, sg l] (.bool true) := by
    refine rule83 Tryz.hL rfl rfl rfl ?_
    (simp only [pc83, rs83, oU, oC]; refine ev ?_; try with_reducible exact trivial)
    refine loopF_of (fun E => ∃ k : Nat, k ≤ l.length ∧ E = [(0, sg l), (1, sg l), (12, .int .i64 l.length), (13, .int .i64 k)])
      (fun E => match lk E 13 with | .int _ i => l.length - i.toNat | _ => 0) ⟨0, Nat.zero_le _, rfl⟩ ?_
    rintro _ ⟨k, hk, rfl⟩
    simp only [evX, evY, evZ, forall_const, implies_true, initE, stepF, D.clean, mvF, moF, tkF, shF, ariF, ciF, catF, scF, ebF, eqF, eqOk, eqPr, enF, notF, ngF, cvF, csF, csbF, lenF, lenSF, ixF, iaF, PX.slot, iaAF, faF, ldF, D.mem, stF, bxF, mkSF, boundF, fldF, mmF2, D.plain, D.isPure, optAll, D.dull, callVF, splice, D.cells, D.one, sets, resT, D.flat, D.flat0, D.simple, Nat.reduceBNe, Nat.reduceLT, reduceIte, Nat.reduceEqDiff, Nat.reduceAdd, Nat.reduceMul, Nat.reduceSub, Nat.reduceLeDiff, Int.reduceToNat, Int.reduceLT, Int.reduceLE, Int.reduceEq, Int.reduceNeg, Int.reduceSub, Int.reduceAdd, Int.reduceMul, stG_own, ldC_tms]
    intro h3
    have hx : l[k]? = some (l[k]'(by omega)) := List.getElem?_eq_getElem (by omega)
    generalize l[k]'(by omega) = x at hx
    refine ⟨⟨by omega, by omega, by rw [rows_length tD_len]; omega⟩, x, hx, ⟨by omega, by omega, by rw [rows_length tD_len]; omega⟩, x, hx, ?_⟩
    have he : eqPr [2, 2] (tD x) (tD x) := by simp [eqPr, tD]
    exact ⟨by simp [eqOk, tD], fun h => absurd he h, fun _ => ⟨by omega, ⟨k + 1, by omega, by simp⟩, by omega⟩⟩
  refine rule40 Tryz.hL rfl rfl rfl ?_
  (simp only [pc40, rs40, oU, oC]; refine ev ?_; try with_reducible exact trivial)
  refine callF_of h ?_
  (refine ev ?_; try with_reducible exact trivial)
end Go.Proofs

/-
  SURD: the sign of a sum of two roots. Own work.
-/
namespace Go.Ar.At
open Go.Ar Go.Proofs

def ngT (x : Tm) : Tm := (-x.1, x.2)
theorem TEnc.neg {x : Tm} {t u : Rat} (h0 : x.1 ≠ 0) (h : TEnc x t u) : TEnc (ngT x) (-u) (-t) := by
  obtain ⟨p, q, hp, hq, h1, h2, h3⟩ := h
  refine ⟨p, q, hp, hq, h1, h2, ?_⟩
  show (0 ≤ -x.1 ∧ _ = -x.1 * p ∧ _ = -x.1 * q) ∨ (-x.1 < 0 ∧ _ = -x.1 * q ∧ _ = -x.1 * p)
  rcases h3 with ⟨s, rfl, rfl⟩ | ⟨s, rfl, rfl⟩
  · exact .inr ⟨by grind, by grind, by grind⟩
  · exact .inl ⟨by grind, by grind, by grind⟩
theorem Enc.neg : ∀ {l : List Tm} {lo hi : Rat}, (∀ x ∈ l, x.1 ≠ 0) → Enc l lo hi → Enc (l.map ngT) (-hi) (-lo)
  | [], lo, hi, _, h => ⟨by rw [h.2]; rfl, by rw [h.1]; rfl⟩
  | x :: l, lo, hi, h0, ⟨t, u, lo', hi', h1, h2, e1, e2⟩ =>
    ⟨-u, -t, -hi', -lo', h1.neg (h0 x (List.mem_cons_self ..)), Enc.neg (fun y hy => h0 y (List.mem_cons_of_mem _ hy)) h2, by rw [e2]; grind, by rw [e1]; grind⟩
theorem Enc.swap {x y : Tm} {lo hi : Rat} (h : Enc [x, y] lo hi) : Enc [y, x] lo hi := by
  obtain ⟨t, u, a, b, h1, ⟨t', u', a', b', h1', ⟨e5, e6⟩, e3, e4⟩, e1, e2⟩ := h
  exact ⟨t', u', t, u, h1', ⟨t, u, 0, 0, h1, ⟨rfl, rfl⟩, by grind, by grind⟩, by grind, by grind⟩
theorem Enc.two {x y : Tm} {lo hi : Rat} (hx : 0 < x.1) (hy : y.1 < 0) (h : Enc [x, y] lo hi) : ∃ p1 q1 p2 q2 : Rat, 0 ≤ p1 ∧ 0 ≤ q1 ∧ 0 ≤ p2 ∧ 0 ≤ q2 ∧ p1 * p1 ≤ (x.2 : Rat) ∧ (x.2 : Rat) ≤ q1 * q1 ∧ p2 * p2 ≤ (y.2 : Rat) ∧ (y.2 : Rat) ≤ q2 * q2 ∧ lo = x.1 * p1 + y.1 * q2 ∧ hi = x.1 * q1 + y.1 * p2 := by
  obtain ⟨t, u, a, b, ⟨p1, q1, c1, c2, c3, c4, c5⟩, ⟨t', u', a', b', ⟨p2, q2, d1, d2, d3, d4, d5⟩, ⟨e5, e6⟩, e3, e4⟩, e1, e2⟩ := h
  refine ⟨p1, q1, p2, q2, c1, c2, d1, d2, c3, c4, d3, d4, ?_, ?_⟩
  · rcases c5 with c5 | c5
    · rcases d5 with d5 | d5
      · exact absurd d5.1 (by grind)
      · grind
    · exact absurd c5.1 (by grind)
  · rcases c5 with c5 | c5
    · rcases d5 with d5 | d5
      · exact absurd d5.1 (by grind)
      · grind
    · exact absurd c5.1 (by grind)
theorem two_pos {x y : Tm} (hx : 0 < x.1) (hy : y.1 < 0) (hD : y.1 * y.1 * (y.2 : Rat) < x.1 * x.1 * (x.2 : Rat)) {lo hi : Rat} (he : Enc [x, y] lo hi) : 0 < hi := by
  obtain ⟨p1, q1, p2, q2, a1, a2, a3, a4, c1, c2, c3, c4, _, rfl⟩ := he.two hx hy
  refine Rat.not_le.1 fun h => ?_
  have s1 := Rat.mul_nonneg (Rat.mul_nonneg (show 0 ≤ x.1 by grind) (show 0 ≤ x.1 by grind)) (show 0 ≤ q1 * q1 - (x.2 : Rat) by grind)
  have s2 := Rat.mul_nonneg (Rat.mul_nonneg (show 0 ≤ -y.1 by grind) (show 0 ≤ -y.1 by grind)) (show 0 ≤ (y.2 : Rat) - p2 * p2 by grind)
  have s3 := Rat.mul_nonneg (show 0 ≤ x.1 by grind) a2
  have s4 := Rat.mul_nonneg (show 0 ≤ -y.1 by grind) a3
  have s5 := Rat.mul_nonneg (show 0 ≤ -(x.1 * q1 + y.1 * p2) by grind) (show 0 ≤ x.1 * q1 + -y.1 * p2 by grind)
  grind
theorem two_narrow {x y : Tm} (hx : 0 < x.1) (hy : y.1 < 0) {d e : Rat} (hD : y.1 * y.1 * (y.2 : Rat) + d ≤ x.1 * x.1 * (x.2 : Rat)) {lo hi : Rat} (he : Enc [x, y] lo hi) (hw : hi - lo ≤ e) (e0 : 0 ≤ e) (e1 : e ≤ 1)
    (hB : e * (x.1 * ((x.2 : Rat) + 1) + 1 + -y.1 * ((y.2 : Rat) + 1)) < d) : 0 < lo := by
  obtain ⟨p1, q1, p2, q2, a1, a2, a3, a4, c1, c2, c3, c4, rfl, rfl⟩ := he.two hx hy
  refine Rat.not_le.1 fun h => ?_
  have nx := nat_nonneg x.2
  have ny := nat_nonneg y.2
  obtain ⟨f, n⟩ := x
  obtain ⟨y1, m⟩ := y
  obtain ⟨g, rfl⟩ : ∃ g, y1 = -g := ⟨-y1, by grind⟩
  dsimp only at *
  clear he
  generalize (n : Rat) = n at *
  generalize (m : Rat) = m at *
  have hg : 0 < g := by grind
  have hB : e * (f * (n + 1) + 1 + g * (m + 1)) < d := by rw [show - -g = g by grind] at hB; exact hB
  have b1 : p1 ≤ n + 1 := sq_le (by grind) (by have := Rat.mul_nonneg nx nx; grind)
  have b2 : p2 ≤ m + 1 := sq_le (by grind) (by have := Rat.mul_nonneg ny ny; grind)
  have b3 : p1 ≤ q1 := sq_le a2 (by grind)
  have b4 : p2 ≤ q2 := sq_le a4 (by grind)
  have w1 := Rat.mul_nonneg (show 0 ≤ f by grind) (show 0 ≤ n + 1 - p1 by grind)
  have w2 := Rat.mul_nonneg (show 0 ≤ g by grind) (show 0 ≤ m + 1 - p2 by grind)
  have w3 := Rat.mul_nonneg (show 0 ≤ g by grind) (show 0 ≤ q2 - p2 by grind)
  have w4 := Rat.mul_nonneg (show 0 ≤ f by grind) (show 0 ≤ q1 - p1 by grind)
  have s1 := Rat.mul_nonneg (Rat.mul_nonneg (show 0 ≤ f by grind) (show 0 ≤ f by grind)) (show 0 ≤ q1 * q1 - n by grind)
  have s2 := Rat.mul_nonneg (Rat.mul_nonneg (show 0 ≤ g by grind) (show 0 ≤ g by grind)) (show 0 ≤ m - p2 * p2 by grind)
  have s3 := Rat.mul_nonneg (show 0 ≤ f by grind) a2
  have s4 := Rat.mul_nonneg (show 0 ≤ g by grind) a3
  -- the greater bound times the sum of both roots is at least d
  have k1 : d ≤ (f * q1 + -g * p2) * (f * q1 + g * p2) := by grind
  have k2 : f * q1 + -g * p2 ≤ e := by grind
  have k3 : f * q1 + g * p2 ≤ f * (n + 1) + 1 + g * (m + 1) := by grind
  have k4 : 0 ≤ f * q1 + g * p2 := by grind
  generalize f * q1 + -g * p2 = A at *
  generalize f * q1 + g * p2 = B at *
  generalize f * (n + 1) + 1 + g * (m + 1) = C at *
  have z1 := Rat.mul_nonneg (show 0 ≤ e - A by grind) k4
  have z2 := Rat.mul_nonneg e0 (show 0 ≤ C - B by grind)
  grind
end Go.Ar.At

/-
  SURD: differences of one term and one term, and their signs. Own work.
-/
namespace Go.Ar.At
open Go.Ar Go.Proofs
/-- one term: its sign is that of its factor -/
theorem one_sign {x : Tm} (hn : 0 < x.2) {lo hi : Rat} (he : Enc [x] lo hi) : (0 < x.1 → ¬hi < 0) ∧ (x.1 < 0 → ¬0 < lo) ∧ ∀ e : Rat, hi - lo ≤ e → (0 < x.1 → e < x.1 → 0 < lo) ∧ (x.1 < 0 → e < -x.1 → hi < 0) := by
  obtain ⟨t, u, a, b, ⟨p, q, h1, h2, h3, h4, h5⟩, ⟨e5, e6⟩, e1, e2⟩ := he
  subst e5 e6
  have n1 : (1 : Rat) ≤ (x.2 : Rat) := Rat.natCast_le_natCast.2 (show 1 ≤ x.2 from hn)
  have q1 : 1 ≤ q := sq_le h2 (by grind)
  rcases h5 with ⟨s, rfl, rfl⟩ | ⟨s, rfl, rfl⟩
  · refine ⟨fun hx => ?_, fun hx => absurd hx (by grind), fun e he => ⟨fun hx hex => ?_, fun hx => absurd hx (by grind)⟩⟩
    · have := Rat.mul_nonneg s h2
      grind
    · have := Rat.mul_nonneg s (show 0 ≤ q - 1 by grind)
      grind
  · refine ⟨fun hx => absurd hx (by grind), fun hx => ?_, fun e he => ⟨fun hx => absurd hx (by grind), fun hx hex => ?_⟩⟩
    · have := Rat.mul_nonneg (show 0 ≤ -x.1 by grind) h2
      grind
    · have := Rat.mul_nonneg (show 0 ≤ -x.1 by grind) (show 0 ≤ q - 1 by grind)
      grind
/-- what shows the sign of a list: r never contradicted, and shown at 1024 bits -/
def Shown (l : List Tm) (r : Int) : Prop := ∀ lo hi : Rat, Enc l lo hi → (r = 1 → ¬hi < 0) ∧ (r = -1 → ¬0 < lo) ∧ ((hi - lo) * ((2 ^ 1024 : Nat) : Rat) ≤ ((10 ^ 100 : Nat) : Rat) → (r = 1 → 0 < lo) ∧ (r = -1 → hi < 0))
theorem Shown.neg {l : List Tm} {r : Int} (h0 : ∀ x ∈ l, x.1 ≠ 0) (h : Shown (l.map ngT) r) : Shown l (-r) := by
  intro lo hi he
  obtain ⟨h1, h2, h3⟩ := h _ _ (he.neg h0)
  refine ⟨fun hr hh => h2 (by omega) (by grind), fun hr hh => h1 (by omega) (by grind), fun hw => ?_⟩
  obtain ⟨h4, h5⟩ := h3 (by grind)
  exact ⟨fun hr => by have := h5 (by omega); grind, fun hr => by have := h4 (by omega); grind⟩
theorem Shown.swap {x y : Tm} {r : Int} (h : Shown [x, y] r) : Shown [y, x] r := fun lo hi he => h lo hi he.swap
/-- narrow: less than 10^-200 -/
theorem tiny {w : Rat} (h : w * ((2 ^ 1024 : Nat) : Rat) ≤ ((10 ^ 100 : Nat) : Rat)) : w * ((10 ^ 200 : Nat) : Rat) ≤ 1 := by
  have h1 : ((10 ^ 200 : Nat) : Rat) * ((10 ^ 100 : Nat) : Rat) ≤ ((2 ^ 1024 : Nat) : Rat) := by
    rw [← cast_mul]; exact Rat.natCast_le_natCast.2 (by decide +kernel)
  have h2 : (0 : Rat) < ((10 ^ 100 : Nat) : Rat) := nat1 (Nat.pow_pos (by decide))
  have h3 : (0 : Rat) < ((10 ^ 200 : Nat) : Rat) := nat1 (Nat.pow_pos (by decide))
  generalize ((10 ^ 100 : Nat) : Rat) = b at *
  generalize ((10 ^ 200 : Nat) : Rat) = c at *
  generalize ((2 ^ 1024 : Nat) : Rat) = n at *
  refine Rat.not_lt.1 fun hh => ?_
  have hw : 0 < w := Rat.not_le.1 fun h4 => by have := Rat.mul_nonneg (show 0 ≤ -w by grind) (show 0 ≤ c by grind); grind
  have p1 := Rat.mul_nonneg (show 0 ≤ w by grind) (show 0 ≤ n - c * b by grind)
  have p2 := Rat.mul_pos (show 0 < w * c - 1 by grind) h2
  grind
theorem shown_one {x : Tm} (hn : 0 < x.2) (h0 : x.1 ≠ 0) (hb : 1 < (if 0 < x.1 then x.1 else -x.1) * ((10 ^ 200 : Nat) : Rat)) : Shown [x] (if 0 < x.1 then 1 else -1) := by
  intro lo hi he
  obtain ⟨h1, h2, h3⟩ := one_sign hn he
  by_cases hp : 0 < x.1
  · rw [if_pos hp] at hb ⊢
    refine ⟨fun _ => h1 hp, fun h => absurd h (by decide), fun hw => ⟨fun _ => (h3 (hi - lo) Rat.le_refl).1 hp ?_, fun h => absurd h (by decide)⟩⟩
    have t := tiny hw
    have h3 : (0 : Rat) < ((10 ^ 200 : Nat) : Rat) := nat1 (Nat.pow_pos (by decide))
    generalize ((10 ^ 200 : Nat) : Rat) = c at *
    refine Rat.not_le.1 fun hh => ?_
    have := Rat.mul_nonneg (show 0 ≤ hi - lo - x.1 by grind) (show 0 ≤ c by grind)
    grind
  · rw [if_neg hp] at hb ⊢
    have hm : x.1 < 0 := by grind
    refine ⟨fun h => absurd h (by decide), fun _ => h2 hm, fun hw => ⟨fun h => absurd h (by decide), fun _ => (h3 (hi - lo) Rat.le_refl).2 hm ?_⟩⟩
    have t := tiny hw
    have h3 : (0 : Rat) < ((10 ^ 200 : Nat) : Rat) := nat1 (Nat.pow_pos (by decide))
    generalize ((10 ^ 200 : Nat) : Rat) = c at *
    refine Rat.not_le.1 fun hh => ?_
    have := Rat.mul_nonneg (show 0 ≤ hi - lo - -x.1 by grind) (show 0 ≤ c by grind)
    grind
/-- a positive and a negative term -/
theorem shown_two {x y : Tm} (hx : 0 < x.1) (hy : y.1 < 0) {d : Rat} (hd : 0 < d) (hD : y.1 * y.1 * (y.2 : Rat) + d ≤ x.1 * x.1 * (x.2 : Rat))
    (hB : x.1 * ((x.2 : Rat) + 1) + 1 + -y.1 * ((y.2 : Rat) + 1) < d * ((10 ^ 200 : Nat) : Rat)) : Shown [x, y] 1 := by
  intro lo hi he
  have hp := two_pos hx hy (show y.1 * y.1 * (y.2 : Rat) < x.1 * x.1 * (x.2 : Rat) by grind) he
  refine ⟨fun _ hh => by grind, fun h => absurd h (by decide), fun hw => ⟨fun _ => ?_, fun h => absurd h (by decide)⟩⟩
  have t := tiny hw
  have c1 : (1 : Rat) ≤ ((10 ^ 200 : Nat) : Rat) := Rat.natCast_le_natCast.2 (show 1 ≤ 10 ^ 200 from Nat.pow_pos (by decide))
  have hc := he.cross he
  generalize ((10 ^ 200 : Nat) : Rat) = c at *
  have e0 : 0 ≤ hi - lo := by grind
  refine two_narrow hx hy hD he Rat.le_refl e0 ?_ ?_
  · have := Rat.mul_nonneg e0 (show 0 ≤ c - 1 by grind); grind
  · have hxn := nat_nonneg x.2
    have hyn := nat_nonneg y.2
    generalize hC : x.1 * ((x.2 : Rat) + 1) + 1 + -y.1 * ((y.2 : Rat) + 1) = C at *
    have hC0 : 0 < C := by
      have p1 := Rat.mul_nonneg (show 0 ≤ x.1 by grind) (show 0 ≤ (x.2 : Rat) + 1 by grind)
      have p2 := Rat.mul_nonneg (show 0 ≤ -y.1 by grind) (show 0 ≤ (y.2 : Rat) + 1 by grind)
      grind
    refine Rat.not_le.1 fun hh => ?_
    have q1 := Rat.mul_nonneg (show 0 ≤ 1 - (hi - lo) * c by grind) (show 0 ≤ C by grind)
    have q2 := Rat.mul_nonneg (show 0 ≤ (hi - lo) * C - d by grind) (show 0 ≤ c by grind)
    grind
end Go.Ar.At
namespace Go.Proofs
open Go Go.Pi Go.RowKit Go.Ar
/-- the program's sign of a list whose sign is shown -/
theorem Tryz.ssignS (l : List Tm) (h : SOk l) (hne : l ≠ []) (hl : l.length ≤ 10) {m : Nat} (hm : m * 10 ≤ 10 ^ 100) (hb : ∀ x ∈ l, At.Bd m x.1) (r : Int) (hr : r = 1 ∨ r = -1) (hs : At.Shown l r) : Con Tryz.prog Tryz.L 77 [sg l] (.int .i64 r) := by
  have henc : ∀ bits, ∃ lo hi : Rat, At.Enc l lo hi ∧ (0 < (encL l bits).1 ↔ 0 < lo) ∧ ((encL l bits).2 < 0 ↔ hi < 0) ∧ (hi - lo) * (2 ^ bits : Nat) ≤ ((10 ^ 100 : Nat) : Rat) := by
    intro bits
    have hp : 0 < 2 ^ bits := Nat.pow_pos (by decide)
    have hD := denL_pos (l := l) (d := 1) (by decide)
    obtain ⟨lo, hi, g1, g2, g3, g4, g5, g6⟩ := At.enc_fold hp hD (p := (0, 0)) (m := m) (l := l) (fun x hx => ⟨At.den_dvd hx, hb x hx⟩)
    have e4 : 2 ^ bits * 2 ^ bits = 4 ^ bits := by rw [← Nat.mul_pow]
    rw [e4] at g2 g3
    have z0 : (((0 : Int), (0 : Int)).1 : Rat) = 0 := rfl
    have z1 : (((0 : Int), (0 : Int)).2 : Rat) = 0 := rfl
    rw [z0, Rat.zero_add] at g2
    rw [z1, Rat.zero_add] at g3
    have hT : 0 < denL l * 2 ^ bits := Nat.mul_pos hD hp
    have eT : ((l.foldl denF 1 : Nat) : Rat) * (2 ^ bits : Nat) = ((denL l * 2 ^ bits : Nat) : Rat) := (cast_mul _ _).symm
    rw [eT] at g2 g3
    have tp := At.nat1 hT
    refine ⟨lo, hi, g1, ?_, ?_, ?_⟩
    · have i1 : ((0 : Int) : Rat) < ((encL l bits).1 : Rat) ↔ 0 < (encL l bits).1 := Rat.intCast_lt_intCast
      rw [← i1]
      have g2 : ((encL l bits).1 : Rat) = lo * ((denL l * 2 ^ bits : Nat) : Rat) := g2
      rw [g2]
      show (0 : Rat) < _ ↔ _
      generalize ((denL l * 2 ^ bits : Nat) : Rat) = t at *
      constructor
      · intro hq
        refine Rat.not_le.1 fun hh => ?_
        have := Rat.mul_nonneg (show 0 ≤ -lo by grind) (show 0 ≤ t by grind)
        grind
      · intro hq; exact Rat.mul_pos hq tp
    · have i1 : ((encL l bits).2 : Rat) < ((0 : Int) : Rat) ↔ (encL l bits).2 < 0 := Rat.intCast_lt_intCast
      rw [← i1]
      have g3 : ((encL l bits).2 : Rat) = hi * ((denL l * 2 ^ bits : Nat) : Rat) := g3
      rw [g3]
      show _ < (0 : Rat) ↔ _
      generalize ((denL l * 2 ^ bits : Nat) : Rat) = t at *
      constructor
      · intro hq
        refine Rat.not_le.1 fun hh => ?_
        have := Rat.mul_nonneg hh (show 0 ≤ t by grind)
        grind
      · intro hq
        have := Rat.mul_pos (show 0 < -hi by grind) tp
        grind
    · have e1 : ((m * l.length : Nat) : Rat) ≤ ((10 ^ 100 : Nat) : Rat) := Rat.natCast_le_natCast.2 (Nat.le_trans (Nat.mul_le_mul_left m hl) hm)
      grind
  have h6 : 0 < (encL l 1024).1 ∨ (encL l 1024).2 < 0 := by
    obtain ⟨lo, hi, he, i1, i2, hw⟩ := henc 1024
    rw [i1, i2]
    have := (hs lo hi he).2.2 hw
    rcases hr with hr | hr
    · exact .inl (this.1 hr)
    · exact .inr (this.2 hr)
  obtain ⟨K, k1, k2, k3⟩ := least_to (p := fun K => 0 < (encL l (16 * 2 ^ K)).1 ∨ (encL l (16 * 2 ^ K)).2 < 0) (M := 6) h6
  have hb : 16 * 2 ^ K ≤ 4096 := by
    have : 2 ^ K ≤ 2 ^ 6 := Nat.pow_le_pow_right (by decide) k1
    omega
  obtain ⟨lo, hi, he, i1, i2, _⟩ := henc (16 * 2 ^ K)
  obtain ⟨n1, n2, _⟩ := hs lo hi he
  have hc := he.cross he
  refine Tryz.ssign l h hne K hb (fun j hj => ⟨fun hh => k3 j hj (.inl hh), fun hh => k3 j hj (.inr hh)⟩) r ?_
  by_cases hp : 0 < (encL l (16 * 2 ^ K)).1
  · refine .inl ⟨hp, ?_⟩
    rcases hr with hr | hr
    · exact hr
    · exact absurd (i1.1 hp) (n2 hr)
  · have hn := k2.resolve_left hp
    refine .inr ⟨hp, hn, ?_⟩
    rcases hr with hr | hr
    · exact absurd (i2.1 hn) (n1 hr)
    · exact hr
end Go.Proofs

/-
  SURD: differences of at most one term and at most one term. Own work.
-/
namespace Go.Proofs
open Go Go.Pi Go.RowKit Go.Ar

theorem fold2 {all : List Tm} (h : all.length ≤ 2) (hb : ∀ x ∈ all, rd x.1 ≤ 210 ∧ 0 < x.2 ∧ dl (x.2 : Int) ≤ 200) (n : Nat) :
    ((all.take n).foldl addL []).length ≤ 2 ∧ ∀ y ∈ (all.take n).foldl addL [], rd y.1 ≤ 2000 ∧ 0 < y.2 ∧ dl (y.2 : Int) ≤ 200 := by
  have hb' : ∀ x ∈ all.take n, rd x.1 ≤ 210 ∧ 0 < x.2 ∧ dl (x.2 : Int) ≤ 200 := fun x hx => hb x (List.mem_of_mem_take hx)
  have hl : (all.take n).length ≤ 2 := Nat.le_trans (List.length_take_le' ..) h
  generalize all.take n = l at *
  match l, hl with
  | [], _ => exact ⟨by simp, fun y hy => by cases hy⟩
  | [x], _ =>
    obtain ⟨x1, x2, x3⟩ := hb' x (List.mem_cons_self ..)
    refine ⟨by simp [addL], fun y hy => ?_⟩
    have : y = x := by simpa [addL] using hy
    subst this
    exact ⟨by omega, x2, x3⟩
  | [x, t], _ =>
    obtain ⟨x1, x2, x3⟩ := hb' x (List.mem_cons_self ..)
    obtain ⟨t1, t2, t3⟩ := hb' t (List.mem_cons_of_mem _ (List.mem_cons_self ..))
    show (addL [x] t).length ≤ 2 ∧ ∀ y ∈ addL [x] t, _
    show (if isq (x.2 * t.2) then [mrg x t] else x :: addL [] t).length ≤ 2 ∧ ∀ y ∈ (if isq (x.2 * t.2) then [mrg x t] else x :: addL [] t), _
    split
    · refine ⟨by simp, fun y hy => ?_⟩
      rw [List.mem_singleton.1 hy]
      unfold mrg
      split
      · refine ⟨?_, t2, t3⟩
        have h1 : rd (mkRat (nrt (x.2 * t.2)) t.2) ≤ 400 := rd_root (by omega) (by have := dl_nmul x.2 t.2; omega) (by omega)
        have h2 := rd_mul x.1 (mkRat (nrt (x.2 * t.2)) t.2)
        have h3 := rd_add t.1 (x.1 * mkRat (nrt (x.2 * t.2)) t.2)
        show rd (t.1 + x.1 * mkRat (nrt (x.2 * t.2)) t.2) ≤ 2000
        omega
      · refine ⟨?_, x2, x3⟩
        have h1 : rd (mkRat (nrt (x.2 * t.2)) x.2) ≤ 400 := by rw [Nat.mul_comm]; exact rd_root (by omega) (by omega) (by omega)
        have h2 := rd_mul t.1 (mkRat (nrt (x.2 * t.2)) x.2)
        have h3 := rd_add x.1 (t.1 * mkRat (nrt (x.2 * t.2)) x.2)
        show rd (x.1 + t.1 * mkRat (nrt (x.2 * t.2)) x.2) ≤ 2000
        omega
    · refine ⟨by simp [addL], fun y hy => ?_⟩
      rcases List.mem_cons.1 hy with rfl | hy
      · exact ⟨by omega, x2, x3⟩
      · have : y = t := by simpa [addL] using hy
        subst this
        exact ⟨by omega, t2, t3⟩
/-- a term that is a surd of its own -/
def aOk (a : List Tm) : Prop := a.length ≤ 1 ∧ ∀ x ∈ a, tOk x
theorem aOk.ok {a : List Tm} (h : aOk a) : SOk a := ⟨by have := h.1; omega, h.2, fun i j x y hij hx hy => by
  have := (List.getElem?_eq_some_iff.1 hy).1
  have := h.1
  omega⟩
theorem aOk.bd {a : List Tm} (h : aOk a) : ∀ x ∈ a, rd x.1 ≤ 200 ∧ 0 < x.2 ∧ dl (x.2 : Int) ≤ 200 := fun x hx => ⟨(h.2 x hx).2.1, (h.2 x hx).2.2.1, (h.2 x hx).2.2.2.1⟩
def difF (a b : List Tm) : List Tm := ((a ++ mulT (-1) b).foldl addL []).filter fun x => !decide (x.1 = 0)
theorem Tryz.sdiff2 (a b R : List Tm) (ha : aOk a) (hb : aOk b) (hR : R.Perm (difF a b)) (hs : R.Pairwise fun x y => x.2 < y.2) : Con Tryz.prog Tryz.L 76 [sg a, sg b] (sg R) := by
  have e : allT kD 0 [a, b] = a ++ mulT (-1) b := by
    show mulT 1 a ++ (mulT (-1) b ++ []) = _
    rw [mulT_one, List.append_nil]
  have hall : ∀ x ∈ a ++ mulT (-1) b, rd x.1 ≤ 210 ∧ 0 < x.2 ∧ dl (x.2 : Int) ≤ 200 := by
    intro x hx
    rcases List.mem_append.1 hx with hx | hx
    · obtain ⟨q1, q2, q3⟩ := ha.bd x hx
      exact ⟨by omega, q2, q3⟩
    · obtain ⟨y, hy, rfl⟩ := List.mem_map.1 hx
      obtain ⟨q1, q2, q3⟩ := hb.bd y hy
      have h1 := rd_mul y.1 (-1)
      have h2 : rd (-1) ≤ 3 := by rw [show (-1 : Rat) = ((-1 : Int) : Rat) from rfl]; exact rd_int (by decide) (by decide)
      exact ⟨by show rd (y.1 * -1) ≤ 210; omega, q2, q3⟩
  have hl2 : (a ++ mulT (-1) b).length ≤ 2 := by rw [List.length_append, mulT_len]; have := ha.1; have := hb.1; omega
  have hacc := fold2 hl2 hall
  have hfl : (difF a b).length ≤ 2 := by
    have := (hacc (a ++ mulT (-1) b).length).1
    rw [List.take_length] at this
    exact Nat.le_trans (List.length_filter_le _ _) this
  have hsum := Tryz.ssum (f := 120) kD [a, b] R (by simp) (fun s hs' => by
    simp only [List.mem_cons, List.not_mem_nil, or_false] at hs'
    rcases hs' with rfl | rfl
    · exact ⟨by have := ha.1; omega, fun x hx => ⟨by have := (ha.bd x hx).1; omega, (ha.bd x hx).2⟩⟩
    · exact ⟨by have := hb.1; omega, fun x hx => ⟨by have := (hb.bd x hx).1; omega, (hb.bd x hx).2⟩⟩) (by kernel_rfl) (fun i hi => ⟨by
      unfold kD
      split
      · rw [show (1 : Rat) = ((1 : Int) : Rat) from rfl]; exact rd_int (by decide) (by decide)
      · rw [show (-1 : Rat) = ((-1 : Int) : Rat) from rfl]; exact rd_int (by decide) (by decide), Tryz.sfSign i hi⟩)
    (by rw [e]; exact fun n _ => ⟨by have := (hacc n).1; omega, (hacc n).2⟩) (by rw [e]; exact Nat.le_trans hfl (by decide)) (by
      rw [e]
      intro r hp hr
      have hpr : r.Perm R := hp.trans hR.symm
      have hne : R.Pairwise fun x y => x.2 ≠ y.2 := hs.imp fun h e => by omega
      have hnr : r.Pairwise fun x y => x.2 ≠ y.2 := hpr.symm.pairwise hne fun h e => h e.symm
      exact sorted_ext ((hr.and hnr).imp fun ⟨h1, h2⟩ => by omega) hs fun x => hpr.mem_iff)
  refine rule76 Tryz.hL rfl rfl rfl ?_
  (simp only [pc76, rs76, oU, oC]; refine ev ?_; try with_reducible exact trivial)
  refine callF_of hsum ?_
  (refine ev ?_; try with_reducible exact trivial)
theorem Tryz.scheck2 (a b : List Tm) (ha : aOk a) (hb : aOk b) : Con Tryz.prog Tryz.L 75 [.sl 2 [sg a, sg b]] (.int .i64 0) :=
  Tryz.scheckAll [a, b] (by simp) (fun q hq => by
    simp only [List.mem_cons, List.not_mem_nil, or_false] at hq
    rcases hq with rfl | rfl
    · exact ha.ok
    · exact hb.ok)
theorem Tryz.sCompare2 (a b R : List Tm) (ha : aOk a) (hb : aOk b) (hR : R.Perm (difF a b)) (hs : R.Pairwise fun x y => x.2 < y.2) (r : Int) (hr : Con Tryz.prog Tryz.L 77 [sg R] (.int .i64 r)) :
    Con Tryz.prog Tryz.L 31 [sg a, sg b] (.tup [.int .i64 r, .int .i64 0]) := by
  refine rule31 Tryz.hL rfl rfl rfl ?_
  (simp only [pc31, rs31, oU, oC]; refine ev ?_; try with_reducible exact trivial)
  refine callF_of (Tryz.scheck2 a b ha hb) ?_
  (refine ev ?_; try with_reducible exact trivial)
  refine callF_of (Tryz.sdiff2 a b R ha hb hR hs) ?_
  (refine ev ?_; try with_reducible exact trivial)
  refine callF_of hr ?_
  (refine ev ?_; try with_reducible exact trivial)
  simp [resD_two, rvD, lk, D.plain, D.isPure, optAll]
/-- equal, where the difference is empty -/
theorem Tryz.lequal2 (a b : List Tm) (ha : aOk a) (hb : aOk b) (hR : difF a b = []) : Con Tryz.prog Tryz.L 41 [sg a, sg b] (.bool true) := by
  have hd := Tryz.sdiff2 a b [] ha hb (by rw [hR]) .nil
  have he : Con Tryz.prog Tryz.L 34 [sg a, sg b] (.tup [.bool true, .int .i64 0]) := by
    refine rule34 Tryz.hL rfl rfl rfl ?_
    (simp only [pc34, rs34, oU, oC]; refine ev ?_; try with_reducible exact trivial)
    refine callF_of (Tryz.scheck2 a b ha hb) ?_
    (refine ev ?_; try with_reducible exact trivial)
    refine callF_of hd ?_
    (refine ev ?_; try with_reducible exact trivial)
    rw [show dB (((0 : Nat) : Int) = 0) = true from dB_t rfl]
    simp [resD_two, rvD, lk, D.plain, D.isPure, optAll]
  refine rule41 Tryz.hL rfl rfl rfl ?_
  (simp only [pc41, rs41, oU, oC]; refine ev ?_; try with_reducible exact trivial)
  refine callF_of he ?_
  (refine ev ?_; try with_reducible exact trivial)
theorem Tryz.ssign0 : Con Tryz.prog Tryz.L 77 [sg []] (.int .i64 0) := by
  refine rule77 Tryz.hL rfl rfl rfl ?_
  (simp only [pc77, rs77, oU, oC]; refine ev ?_; try with_reducible exact trivial)
  exact fun h1 => absurd rfl h1
end Go.Proofs

/-
  SURD: roots of small numbers: pure part of SurdSquares. Own work.
-/
namespace Go.Ar.At
open Go.Ar Go.Proofs

/-- a rational number whose square is whole -/
theorem rat_sq {r : Rat} {m : Nat} (h0 : 0 ≤ r) (h : r * r = (m : Rat)) : isq m ∧ ((nrt m : Nat) : Rat) = r := by
  have hn := num_eq r
  have hd := r.den_pos
  have hdp := nat_ne hd
  -- num * num = m * (den * den)
  have e : r.num * r.num = (m : Int) * ((r.den : Int) * (r.den : Int)) := by
    have : ((r.num * r.num : Int) : Rat) = (((m : Int) * ((r.den : Int) * (r.den : Int)) : Int) : Rat) := by
      rw [Rat.intCast_mul, Rat.intCast_mul, Rat.intCast_mul, hn]
      show _ = (m : Rat) * ((r.den : Rat) * (r.den : Rat))
      rw [← h]; grind
    exact Rat.intCast_inj.1 this
  have e2 : r.num.natAbs * r.num.natAbs = m * (r.den * r.den) := by
    have := congrArg Int.natAbs e
    rw [Int.natAbs_mul, Int.natAbs_mul, Int.natAbs_mul, Int.natAbs_natCast, Int.natAbs_natCast] at this
    exact this
  have hco := r.reduced
  have h1 : r.den ∣ r.num.natAbs * r.num.natAbs := ⟨m * r.den, by rw [e2]; grind⟩
  have h2 : r.den ∣ r.num.natAbs := (Nat.Coprime.symm hco).dvd_of_dvd_mul_left h1
  have h3 : r.den = 1 := by
    have := Nat.Coprime.eq_one_of_dvd (Nat.Coprime.symm hco) h2
    exact this
  rw [h3] at e2 hn
  have e3 : r.num.natAbs * r.num.natAbs = m := by rw [e2]; omega
  have hr : r = ((r.num.natAbs : Nat) : Rat) := by
    have hp : 0 ≤ r.num := by
      rcases Int.lt_or_le r.num 0 with h' | h'
      · exact absurd h0 (Rat.not_le.2 ((sign_num r).1.1 h'))
      · exact h'
    have : (r.num.natAbs : Int) = r.num := by omega
    have h4 : ((r.num.natAbs : Int) : Rat) = (r.num : Rat) := by rw [this]
    have o : ((1 : Nat) : Rat) = 1 := rfl
    rw [o, Rat.mul_one] at hn
    rw [← hn, ← h4]; rfl
  refine ⟨by rw [← e3]; exact isq_sq _, ?_⟩
  rw [← e3, nrt_sq]; exact hr.symm
theorem sq_inj {p q : Rat} (hp : 0 ≤ p) (hq : 0 ≤ q) (h : p * p = q * q) : p = q :=
  Rat.le_antisymm (sq_le hq (by grind)) (sq_le hp (by grind))
/-- alike: the root of the product -/
theorem alike_of {f g : Rat} {n m : Nat} (hf : 0 < f) (hg : 0 < g) (hn : 0 < n) (hm : 0 < m) {c : Rat} (hc : 0 ≤ c) (h : f * f * (n : Rat) = c * c * (g * g * (m : Rat))) : isq (n * m) := by
  have hgp : g ≠ 0 := by grind
  have hfp : f ≠ 0 := by grind
  have hi : 0 ≤ f⁻¹ := by
    refine Rat.not_lt.1 fun h' => ?_
    have h1 := Rat.mul_pos hf (show 0 < -f⁻¹ by grind)
    have h2 := Rat.mul_inv_cancel f hfp
    grind
  have h2 := Rat.mul_inv_cancel f hfp
  have hm0 := nat_nonneg m
  refine (rat_sq (r := c * g * (m : Rat) * f⁻¹) (Rat.mul_nonneg (Rat.mul_nonneg (Rat.mul_nonneg hc (by grind)) hm0) hi) ?_).1
  rw [cast_mul]
  generalize f⁻¹ = i at *
  generalize (n : Rat) = n at *
  generalize (m : Rat) = m at *
  have : c * g * m * i * (c * g * m * i) = (c * c * (g * g * m)) * m * i * i := by grind
  rw [this, ← h]
  grind
end Go.Ar.At
namespace Go.Proofs
open Go Go.Pi Go.RowKit Go.Ar

theorem nrt_pos {n : Nat} (h : 0 < n) : 0 < nrt n := by
  rcases Nat.eq_zero_or_pos (nrt n) with h0 | h0
  · rw [nrt_zero] at h0; omega
  · exact h0
/-- the factor of a term and of an alike one, taken away: its sign is that of the difference of the squares -/
theorem mrg_val {f g : Rat} {n m : Nat} (hf : 0 < f) (hg : 0 < g) (hn : 0 < n) (hm : 0 < m) (hq : isq (n * m)) :
    ((mrg (f, n) (-g, m)).1 = 0 ↔ f * f * (n : Rat) = g * g * (m : Rat)) ∧ (0 < (mrg (f, n) (-g, m)).1 ↔ g * g * (m : Rat) < f * f * (n : Rat)) ∧ ((mrg (f, n) (-g, m)).2 = n ∨ (mrg (f, n) (-g, m)).2 = m) := by
  have hnp := nat_ne hn
  have hmp := nat_ne hm
  have hn0 := At.nat1 hn
  have hm0 := At.nat1 hm
  have hk : ((nrt (n * m) : Nat) : Rat) * ((nrt (n * m) : Nat) : Rat) = (n : Rat) * m := by
    rw [← cast_mul, ← cast_mul]; congr 1
  have hk0 := nat_nonneg (nrt (n * m))
  have cmp : ∀ {p q c X Y : Rat}, 0 ≤ p → 0 ≤ q → 0 < c → p * p * c = X → q * q * c = Y → (p - q = 0 ↔ X = Y) ∧ (0 < p - q ↔ Y < X) := by
    intro p q c X Y hp hq hc h1 h2
    subst h1 h2
    have inj : p * p * c = q * q * c → p = q := fun h => At.sq_inj hp hq (by
      have hcn : c ≠ 0 := by grind
      have : (p * p - q * q) * c = 0 := by grind
      have := (rmul_zero this).resolve_right hcn
      grind)
    have lt : q < p → q * q * c < p * p * c := fun h => by
      have := Rat.mul_pos (Rat.mul_pos (show 0 < p - q by grind) (show 0 < p + q by grind)) hc
      grind
    have lt' : p < q → p * p * c < q * q * c := fun h => by
      have := Rat.mul_pos (Rat.mul_pos (show 0 < q - p by grind) (show 0 < p + q by grind)) hc
      grind
    refine ⟨⟨fun h => by have : p = q := by grind
                         rw [this], fun h => by rw [inj h]; grind⟩, fun h => lt (by grind), fun h => ?_⟩
    refine Rat.not_le.1 fun h' => ?_
    by_cases he : p = q
    · rw [he] at h; grind
    · have := lt' (by grind)
      grind
  unfold mrg
  by_cases hc : m < n
  · rw [if_pos hc]
    have e : mkRat (nrt (n * m)) m = ((nrt (n * m) : Nat) : Rat) / m := Rat.mkRat_eq_div _ _
    have hk2 : ((nrt (n * m) : Nat) : Rat) / (m : Rat) * m = ((nrt (n * m) : Nat) : Rat) := by grind
    obtain ⟨h1, h2⟩ := cmp (p := f * (((nrt (n * m) : Nat) : Rat) / m)) (q := g) (c := m) (X := f * f * (n : Rat)) (Y := g * g * (m : Rat)) (Rat.mul_nonneg (by grind) (Rat.not_lt.1 fun h' => by
      have := Rat.mul_pos (show 0 < -(((nrt (n * m) : Nat) : Rat) / m) by grind) hm0
      grind)) (by grind) hm0 (by
        have : f * (((nrt (n * m) : Nat) : Rat) / m) * (f * (((nrt (n * m) : Nat) : Rat) / m)) * m * m = f * f * n * m := by
          have : f * (((nrt (n * m) : Nat) : Rat) / m) * (f * (((nrt (n * m) : Nat) : Rat) / m)) * m * m = f * f * ((((nrt (n * m) : Nat) : Rat) / m * m) * (((nrt (n * m) : Nat) : Rat) / m * m)) := by grind
          rw [this, hk2, hk]; grind
        have h3 : (f * (((nrt (n * m) : Nat) : Rat) / m) * (f * (((nrt (n * m) : Nat) : Rat) / m)) * m - f * f * n) * m = 0 := by grind
        have := (rmul_zero h3).resolve_right hmp
        grind) rfl
    refine ⟨?_, ?_, .inr rfl⟩
    · show -g + f * mkRat (nrt (n * m)) m = 0 ↔ _
      rw [← h1, e]; constructor <;> intro h <;> grind
    · show 0 < -g + f * mkRat (nrt (n * m)) m ↔ _
      rw [← h2, e]; constructor <;> intro h <;> grind
  · rw [if_neg hc]
    have e : mkRat (nrt (n * m)) n = ((nrt (n * m) : Nat) : Rat) / n := Rat.mkRat_eq_div _ _
    have hk2 : ((nrt (n * m) : Nat) : Rat) / (n : Rat) * n = ((nrt (n * m) : Nat) : Rat) := by grind
    obtain ⟨h1, h2⟩ := cmp (p := f) (q := g * (((nrt (n * m) : Nat) : Rat) / n)) (c := n) (X := f * f * (n : Rat)) (Y := g * g * (m : Rat)) (by grind) (Rat.mul_nonneg (by grind) (Rat.not_lt.1 fun h' => by
      have := Rat.mul_pos (show 0 < -(((nrt (n * m) : Nat) : Rat) / n) by grind) hn0
      grind)) hn0 rfl (by
        have : g * (((nrt (n * m) : Nat) : Rat) / n) * (g * (((nrt (n * m) : Nat) : Rat) / n)) * n * n = g * g * m * n := by
          have : g * (((nrt (n * m) : Nat) : Rat) / n) * (g * (((nrt (n * m) : Nat) : Rat) / n)) * n * n = g * g * ((((nrt (n * m) : Nat) : Rat) / n * n) * (((nrt (n * m) : Nat) : Rat) / n * n)) := by grind
          rw [this, hk2, hk]; grind
        have h3 : (g * (((nrt (n * m) : Nat) : Rat) / n) * (g * (((nrt (n * m) : Nat) : Rat) / n)) * n - g * g * m) * n = 0 := by grind
        have := (rmul_zero h3).resolve_right hnp
        grind)
    refine ⟨?_, ?_, .inl rfl⟩
    · show f + -g * mkRat (nrt (n * m)) n = 0 ↔ _
      rw [← h1, e]; constructor <;> intro h <;> grind
    · show 0 < f + -g * mkRat (nrt (n * m)) n ↔ _
      rw [← h2, e]; constructor <;> intro h <;> grind
end Go.Proofs

/-
  SURD: roots of small numbers, their differences and order. Own work.
-/
namespace Go.Proofs
open Go Go.Pi Go.RowKit Go.Ar

theorem rd_bd {q : Rat} {k : Nat} (h : rd q ≤ k) : At.Bd (10 ^ k) q := by
  have hn := rd_num q
  have h1 : q.num.natAbs < 10 ^ k := Nat.lt_of_lt_of_le (dd_lt _) (Nat.pow_le_pow_right (by decide) (by have : dl q.num = (dd q.num.natAbs).length := rfl; omega))
  have e := num_eq q
  have hd : (1 : Rat) ≤ (q.den : Rat) := Rat.natCast_le_natCast.2 (show 1 ≤ q.den from q.den_pos)
  have u1 : (q.num : Rat) ≤ ((10 ^ k : Nat) : Rat) := Rat.intCast_le_intCast.2 (show q.num ≤ ((10 ^ k : Nat) : Int) by omega)
  have u2 : -((10 ^ k : Nat) : Rat) ≤ (q.num : Rat) := by
    have := Rat.intCast_le_intCast.2 (show -((10 ^ k : Nat) : Int) ≤ q.num by omega)
    rw [Rat.intCast_neg] at this; exact this
  rw [e] at u1 u2
  exact At.div_le hd ⟨u1, u2⟩
theorem den_bd {q : Rat} {k : Nat} (h : rd q ≤ k) : q.den < 10 ^ k := Nat.lt_of_lt_of_le (dd_lt _) (Nat.pow_le_pow_right (by decide) (by have := rd_den q; omega))
/-- rationals that differ, differ by much -/
theorem rat_gap {x y : Rat} (h : y < x) : 1 ≤ (x - y) * ((x.den : Rat) * (y.den : Rat)) := by
  have hx := num_eq x
  have hy := num_eq y
  have e : (x - y) * ((x.den : Rat) * (y.den : Rat)) = ((x.num * y.den - y.num * x.den : Int) : Rat) := by
    rw [Rat.intCast_sub, Rat.intCast_mul, Rat.intCast_mul, hx, hy]
    show _ = x * (x.den : Rat) * (y.den : Rat) - y * (y.den : Rat) * (x.den : Rat)
    grind
  have hp : 0 < (x - y) * ((x.den : Rat) * (y.den : Rat)) := Rat.mul_pos (by grind) (Rat.mul_pos (At.nat1 x.den_pos) (At.nat1 y.den_pos))
  rw [e] at hp ⊢
  have h1 : (0 : Int) < x.num * y.den - y.num * x.den := Rat.intCast_lt_intCast.1 (show ((0 : Int) : Rat) < _ from hp)
  exact Rat.intCast_le_intCast.2 (show (1 : Int) ≤ _ from h1)
theorem gap_pow {x y : Rat} {k : Nat} (hx : rd x ≤ k) (hy : rd y ≤ k) (h : y < x) : 1 ≤ (x - y) * ((10 ^ (k + k) : Nat) : Rat) := by
  have h1 := rat_gap h
  have h2 : ((x.den * y.den : Nat) : Rat) ≤ ((10 ^ (k + k) : Nat) : Rat) := Rat.natCast_le_natCast.2 (by
    rw [Nat.pow_add]; exact Nat.mul_le_mul (Nat.le_of_lt (den_bd hx)) (Nat.le_of_lt (den_bd hy)))
  rw [cast_mul] at h2
  generalize ((10 ^ (k + k) : Nat) : Rat) = c at *
  generalize (x.den : Rat) * (y.den : Rat) = m at *
  have := Rat.mul_nonneg (show 0 ≤ x - y by grind) (show 0 ≤ c - m by grind)
  grind
/-- the root as a list -/
def sqL (q : Rat) : List Tm := if q = 0 then [] else ofL q
theorem ofL_spec {q : Rat} {k : Nat} (hk : 0 < k) (h0 : 0 < q) (hq : rd q ≤ k) : ∃ f n, ofL q = [(f, n)] ∧ 0 < f ∧ 0 < n ∧ f * f * (n : Rat) = q ∧ (isq n → n = 1) ∧ rd f ≤ k ∧ dl (n : Int) ≤ k + k := by
  have hn := (sign_num q).2.2.2 h0
  have hnum : q.num = (q.num.natAbs : Int) := by omega
  have hP : 0 < q.num.natAbs * q.den := Nat.mul_pos (by omega) q.den_pos
  have hdp := nat_ne q.den_pos
  have hval : ((q.num.natAbs * q.den : Nat) : Rat) = q * (q.den : Rat) * (q.den : Rat) := by
    rw [cast_mul]
    have h1 : ((q.num.natAbs : Int) : Rat) = (q.num : Rat) := by rw [← hnum]
    have h2 : ((q.num.natAbs : Nat) : Rat) = q * (q.den : Rat) := by rw [← num_eq q, ← h1]; rfl
    rw [h2]
  have l1 := rd_num q
  have l2 := rd_den q
  have lP : dl ((q.num.natAbs * q.den : Nat) : Int) ≤ k + k := by
    have h1 := dl_nmul q.num.natAbs q.den
    have h2 : dl ((q.num.natAbs : Nat) : Int) = dl q.num := by rw [← hnum]
    have h3 : dl (q.den : Int) ≤ rd q := l2
    omega
  unfold ofL
  generalize hPP : q.num.natAbs * q.den = P at *
  by_cases hs : isq P
  · rw [if_pos hs]
    have hr := nrt_pos hP
    have hr1 : ((nrt P : Nat) : Rat) * ((nrt P : Nat) : Rat) = (P : Rat) := by rw [← cast_mul]; congr 1
    refine ⟨_, _, rfl, ?_, by decide, ?_, fun _ => rfl, ?_, Nat.le_trans (show dl ((1 : Nat) : Int) ≤ 1 from Nat.le_of_eq dl_one) (by omega)⟩
    · rw [Rat.mkRat_eq_div]
      show 0 < ((nrt P : Nat) : Rat) / (q.den : Rat)
      have e : ((nrt P : Nat) : Rat) / (q.den : Rat) * (q.den : Rat) = (nrt P : Rat) := by grind
      refine Rat.not_le.1 fun h' => ?_
      have h1 := Rat.mul_nonneg (show 0 ≤ -(((nrt P : Nat) : Rat) / (q.den : Rat)) by grind) (nat_nonneg q.den)
      have h2 := At.nat1 hr
      grind
    · rw [Rat.mkRat_eq_div]
      show ((nrt P : Nat) : Rat) / (q.den : Rat) * (((nrt P : Nat) : Rat) / (q.den : Rat)) * ((1 : Nat) : Rat) = q
      have o : ((1 : Nat) : Rat) = 1 := rfl
      rw [o]
      rw [hval] at hr1
      generalize ((nrt P : Nat) : Rat) = r at *
      generalize (q.den : Rat) = d at *
      grind
    · exact nrt_rd hk q.den_nz (by have : (dd q.den).length ≤ rd q := l2; omega) lP
  · rw [if_neg hs]
    refine ⟨_, _, rfl, ?_, hP, ?_, fun h => absurd h hs, rd_mk q.den_nz (by rw [dl_one]; omega) (by have : (dd q.den).length ≤ rd q := l2; omega), lP⟩
    · rw [Rat.mkRat_eq_div]
      have e : ((1 : Int) : Rat) / (q.den : Rat) * (q.den : Rat) = 1 := by
        have : ((1 : Int) : Rat) = 1 := rfl
        rw [this]; grind
      refine Rat.not_le.1 fun h' => ?_
      have h1 := Rat.mul_nonneg (show 0 ≤ -(((1 : Int) : Rat) / (q.den : Rat)) by grind) (nat_nonneg q.den)
      grind
    · rw [Rat.mkRat_eq_div, hval]
      have : ((1 : Int) : Rat) = 1 := rfl
      rw [this]
      generalize (q.den : Rat) = d at *
      grind
theorem sqL_pos {q : Rat} {k : Nat} (hk : 0 < k) (h0 : 0 < q) (hq : rd q ≤ k) : ∃ f n, sqL q = [(f, n)] ∧ 0 < f ∧ 0 < n ∧ f * f * (n : Rat) = q ∧ (isq n → n = 1) ∧ rd f ≤ k ∧ dl (n : Int) ≤ k + k := by
  obtain ⟨f, n, h⟩ := ofL_spec hk h0 hq
  exact ⟨f, n, by unfold sqL; rw [if_neg (by grind)]; exact h.1, h.2⟩
theorem sqL_zero : sqL 0 = [] := if_pos rfl
theorem rnonneg {q : Rat} (h : 0 ≤ q) : q = 0 ∨ 0 < q := by
  by_cases he : q = 0
  · exact .inl he
  · exact .inr (by grind)
theorem sqL_ok {q : Rat} (h0 : 0 ≤ q) (hq : rd q ≤ 20) : aOk (sqL q) := by
  rcases rnonneg h0 with rfl | hp
  · rw [sqL_zero]; exact ⟨by decide, fun x hx => by cases hx⟩
  · obtain ⟨f, n, e, h1, h2, h3, h4, h5, h6⟩ := sqL_pos (k := 20) (by decide) hp hq
    rw [e]
    exact ⟨by simp, fun x hx => by rw [List.mem_singleton.1 hx]; exact ⟨by show f ≠ 0; grind, by show rd f ≤ 200; omega, h2, by show dl (n : Int) ≤ 200; omega, h4⟩⟩
theorem Tryz.ofS (q : Rat) (h0 : 0 ≤ q) (hq : rd q ≤ 20) : Con Tryz.prog Tryz.L 14 [.str (rt q)] (.tup [sg (sqL q), .int .i64 0]) := by
  have h := Tryz.of' q (by omega)
  have hn : ¬q.num < 0 := fun h' => by have := (sign_num q).1.1 h'; grind
  unfold ofD at h
  rw [if_neg hn] at h
  rcases rnonneg h0 with rfl | hp
  · rw [if_pos rfl] at h
    rw [sqL_zero]; exact h
  · rw [if_neg (by grind)] at h
    have lP : ¬(¬isq (q.num.natAbs * q.den) ∧ 200 < dl ((q.num.natAbs * q.den : Nat) : Int)) := fun ⟨_, h'⟩ => by
      have h1 := dl_nmul q.num.natAbs q.den
      have h2 : dl ((q.num.natAbs : Nat) : Int) = dl q.num := by
        have hnum : q.num = (q.num.natAbs : Int) := by omega
        rw [← hnum]
      have h3 : dl (q.den : Int) ≤ rd q := rd_den q
      have := rd_num q
      omega
    rw [if_neg lP] at h
    unfold sqL
    rw [if_neg (by grind)]; exact h
theorem Tryz.fromS (q : Rat) (hq : rd q ≤ 20) : Con Tryz.prog Tryz.L 15 [.str (rt q)] (.tup [sg (if q = 0 then [] else [(q, 1)]), .int .i64 0]) := by
  by_cases h0 : q = 0
  · subst h0
    rw [if_pos rfl]
    refine rule15 Tryz.hL rfl rfl rfl ?_
    (simp only [pc15, rs15, oU, oC]; refine ev ?_; try with_reducible exact trivial)
    refine callF_of (Tryz.rcheckQ 0 (by omega)) ?_
    (refine ev ?_; try with_reducible exact trivial)
    rw [rt_zero]
    refine ⟨fun _ => ?_, fun h => absurd rfl h⟩
    simp [resD_two, rvD, lk, D.plain, D.isPure, optAll, rows]
  · rw [if_neg h0]
    exact Tryz.from q (by omega) h0
/-- the root of a square -/
theorem sqL_sq {x : Rat} (h0 : 0 ≤ x) : sqL (x * x) = if x = 0 then [] else [(x, 1)] := by
  by_cases hz : x = 0
  · rw [if_pos hz, hz, Rat.zero_mul, sqL_zero]
  · rw [if_neg hz]
    have hxp : 0 < x := by grind
    have hq : 0 < x * x := Rat.mul_pos hxp hxp
    unfold sqL
    rw [if_neg (by grind)]
    have hn := (sign_num (x * x)).2.2.2 hq
    generalize hqq : x * x = q at *
    have hnum : q.num = (q.num.natAbs : Int) := by omega
    have hdp := nat_ne q.den_pos
    have hval : ((q.num.natAbs * q.den : Nat) : Rat) = q * (q.den : Rat) * (q.den : Rat) := by
      rw [cast_mul]
      have h1 : ((q.num.natAbs : Int) : Rat) = (q.num : Rat) := by rw [← hnum]
      have h2 : ((q.num.natAbs : Nat) : Rat) = q * (q.den : Rat) := by rw [← num_eq q, ← h1]; rfl
      rw [h2]
    obtain ⟨i1, i2⟩ := At.rat_sq (r := x * (q.den : Rat)) (m := q.num.natAbs * q.den) (Rat.mul_nonneg h0 (nat_nonneg _)) (by rw [hval, ← hqq]; grind)
    unfold ofL
    rw [if_pos i1]
    congr 2
    rw [Rat.mkRat_eq_div]
    show ((nrt (q.num.natAbs * q.den) : Nat) : Rat) / (q.den : Rat) = x
    rw [i2]
    generalize (q.den : Rat) = d at *
    grind
/-- four times a number: twice the root -/
theorem sq_four {x : Rat} (h0 : 0 ≤ x) (hq : rd x ≤ 20) (hq4 : rd (x * 4) ≤ 20) : difF (sqL (x * 4)) (mulT 2 (sqL x)) = [] := by
  rcases rnonneg h0 with rfl | hp
  · rw [Rat.zero_mul, sqL_zero]; rfl
  · obtain ⟨f, n, e, f1, n1, v1, _⟩ := sqL_pos (k := 20) (by decide) (q := x * 4) (by grind) hq4
    obtain ⟨g, m, e', g1, m1, v2, _⟩ := sqL_pos (k := 20) (by decide) hp hq
    rw [e, e']
    have hg2 : 0 < g * 2 := by grind
    have hal := At.alike_of f1 hg2 n1 m1 (c := 1) (by decide) (by rw [v1]; grind)
    obtain ⟨w0, _, _⟩ := mrg_val f1 hg2 n1 m1 hal
    have hz := w0.2 (by rw [v1]; grind)
    show List.filter _ (if isq (n * m) then [mrg (f, n) (g * 2 * -1, m)] else [(f, n), (g * 2 * -1, m)]) = _
    rw [if_pos hal, show g * 2 * -1 = -(g * 2) by grind, List.filter_cons_of_neg (by simp [hz]), List.filter_nil]
end Go.Proofs

/-
  SURD: the order of two roots. Own work.
-/
namespace Go.Proofs
open Go Go.Pi Go.RowKit Go.Ar

theorem cmpQ_lt {x y : Rat} (h : x < y) : cmpQ x y = -1 := if_pos h
theorem cmpQ_gt {x y : Rat} (h : y < x) : cmpQ x y = 1 := by
  unfold cmpQ
  rw [if_neg (by grind), if_pos h]
theorem perm_two {a b : Tm} (hne : a.2 ≠ b.2) : ∃ R : List Tm, (R = [a, b] ∨ R = [b, a]) ∧ R.Perm [a, b] ∧ R.Pairwise fun x y => x.2 < y.2 := by
  rcases Nat.lt_or_gt_of_ne hne with h | h
  · exact ⟨[a, b], .inl rfl, List.Perm.refl _, by simp [h]⟩
  · exact ⟨[b, a], .inr rfl, List.Perm.swap _ _ _, by simp [h]⟩
theorem tiny_gap {x y B : Rat} {k : Nat} (hk : k ≤ 40) (hx : rd x ≤ k) (hy : rd y ≤ k) (h : y < x) (hB : B ≤ ((10 ^ 100 : Nat) : Rat)) : B < (x - y) * ((10 ^ 200 : Nat) : Rat) := by
  have g := gap_pow hx hy h
  have h1 : ((10 ^ (k + k) : Nat) : Rat) ≤ ((10 ^ 80 : Nat) : Rat) := Rat.natCast_le_natCast.2 (Nat.pow_le_pow_right (by decide) (by omega))
  have e : ((10 ^ 200 : Nat) : Rat) = ((10 ^ 80 : Nat) : Rat) * ((10 ^ 120 : Nat) : Rat) := by rw [← cast_mul]
  have h2 : ((10 ^ 100 : Nat) : Rat) < ((10 ^ 120 : Nat) : Rat) := Rat.natCast_lt_natCast.2 (by decide +kernel)
  have h3 := nat_nonneg (10 ^ 120)
  rw [e]
  generalize ((10 ^ (k + k) : Nat) : Rat) = a at *
  generalize ((10 ^ 80 : Nat) : Rat) = b at *
  generalize ((10 ^ 100 : Nat) : Rat) = c at *
  generalize ((10 ^ 120 : Nat) : Rat) = d at *
  have p1 := Rat.mul_nonneg (show 0 ≤ x - y by grind) (show 0 ≤ b - a by grind)
  have p2 := Rat.mul_nonneg (show 0 ≤ (x - y) * b - 1 by grind) h3
  grind
theorem big_sum {f g : Rat} {n m : Nat} (hf : 0 < f) (hg : 0 < g) (rf : rd f ≤ 20) (rg : rd g ≤ 20) (ln : dl (n : Int) ≤ 40) (lm : dl (m : Int) ≤ 40) : f * ((n : Rat) + 1) + 1 + g * ((m : Rat) + 1) ≤ ((10 ^ 100 : Nat) : Rat) := by
  have b1 := (rd_bd rf).1
  have b2 := (rd_bd rg).1
  have c1 : ((n + 1 : Nat) : Rat) ≤ ((10 ^ 40 : Nat) : Rat) := Rat.natCast_le_natCast.2 (Nat.lt_of_lt_of_le (dd_lt n) (Nat.pow_le_pow_right (by decide) ln))
  have c2 : ((m + 1 : Nat) : Rat) ≤ ((10 ^ 40 : Nat) : Rat) := Rat.natCast_le_natCast.2 (Nat.lt_of_lt_of_le (dd_lt m) (Nat.pow_le_pow_right (by decide) lm))
  have o : ((1 : Nat) : Rat) = 1 := rfl
  rw [cast_add, o] at c1 c2
  have e : ((10 ^ 20 : Nat) : Rat) * ((10 ^ 40 : Nat) : Rat) + 1 + ((10 ^ 20 : Nat) : Rat) * ((10 ^ 40 : Nat) : Rat) ≤ ((10 ^ 100 : Nat) : Rat) := by
    have := Rat.natCast_le_natCast.2 (show 10 ^ 20 * 10 ^ 40 + 1 + 10 ^ 20 * 10 ^ 40 ≤ 10 ^ 100 by decide +kernel)
    rw [cast_add, cast_add, cast_mul, o] at this
    exact this
  have n0 := nat_nonneg n
  have m0 := nat_nonneg m
  generalize ((10 ^ 20 : Nat) : Rat) = a at *
  generalize ((10 ^ 40 : Nat) : Rat) = b at *
  generalize ((10 ^ 100 : Nat) : Rat) = c at *
  have p1 := Rat.mul_nonneg (show 0 ≤ a - f by grind) (show 0 ≤ (n : Rat) + 1 by grind)
  have p2 := Rat.mul_nonneg (show 0 ≤ a by grind) (show 0 ≤ b - ((n : Rat) + 1) by grind)
  have p3 := Rat.mul_nonneg (show 0 ≤ a - g by grind) (show 0 ≤ (m : Rat) + 1 by grind)
  have p4 := Rat.mul_nonneg (show 0 ≤ a by grind) (show 0 ≤ b - ((m : Rat) + 1) by grind)
  grind
theorem shown_single {w : Rat} {n : Nat} (hn : 0 < n) (h0 : w ≠ 0) (hr : rd w ≤ 100) : At.Shown [(w, n)] (if 0 < w then 1 else -1) := by
  refine At.shown_one hn h0 ?_
  have hd : ((w.den : Nat) : Rat) + 1 ≤ ((10 ^ 200 : Nat) : Rat) := by
    have := Rat.natCast_le_natCast.2 (show w.den + 1 ≤ 10 ^ 200 from Nat.le_trans (den_bd hr) (Nat.pow_le_pow_right (by decide) (by decide)))
    rw [cast_add] at this; exact this
  have hd0 := At.nat1 w.den_pos
  have e := num_eq w
  generalize ((10 ^ 200 : Nat) : Rat) = c at *
  have key : ∀ v : Rat, 0 < v → 1 ≤ v * (w.den : Rat) → 1 < v * c := fun v hv h1 => by
    have := Rat.mul_nonneg (show 0 ≤ v by grind) (show 0 ≤ c - ((w.den : Rat) + 1) by grind)
    grind
  show 1 < (if 0 < w then w else -w) * c
  split
  · rename_i hp
    refine key w hp ?_
    rw [← e]
    have := (sign_num w).2.2.2 hp
    exact Rat.intCast_le_intCast.2 (show (1 : Int) ≤ w.num by omega)
  · rename_i hp
    have hm : w < 0 := by grind
    refine key (-w) (by grind) ?_
    have h2 := (sign_num w).1.2 hm
    have h3 : ((1 : Int) : Rat) ≤ ((-w.num : Int) : Rat) := Rat.intCast_le_intCast.2 (by omega)
    rw [Rat.intCast_neg, e] at h3
    have o : ((1 : Int) : Rat) = 1 := rfl
    rw [o] at h3
    grind
/-- the order of two roots is that of the numbers -/
theorem Tryz.cmpS (x y : Rat) (hx0 : 0 ≤ x) (hy0 : 0 ≤ y) (hx : rd x ≤ 20) (hy : rd y ≤ 20) : Con Tryz.prog Tryz.L 31 [sg (sqL x), sg (sqL y)] (.tup [.int .i64 (cmpQ x y), .int .i64 0]) := by
  have ox := sqL_ok hx0 hx
  have oy := sqL_ok hy0 hy
  have single : ∀ (w : Rat) (n : Nat), tOk (w, n) → rd w ≤ 99 → Con Tryz.prog Tryz.L 77 [sg [(w, n)]] (.int .i64 (if 0 < w then 1 else -1)) := fun w n ht hr => by
    have ok : aOk [(w, n)] := ⟨by simp, fun z hz => by rw [List.mem_singleton.1 hz]; exact ht⟩
    exact Tryz.ssignS _ ok.ok (by simp) (by simp) (m := 10 ^ 99) (by decide +kernel) (fun z hz => by
      rw [List.mem_singleton.1 hz]
      exact rd_bd hr) _ (by split <;> simp) (shown_single ht.2.2.1 ht.1 (by omega))
  rcases rnonneg hx0 with rfl | px
  · rcases rnonneg hy0 with rfl | py
    · rw [sqL_zero, cmpQ_self]
      exact Tryz.sCompare2 [] [] [] ⟨by simp, by simp⟩ ⟨by simp, by simp⟩ (List.Perm.refl _) .nil 0 Tryz.ssign0
    · obtain ⟨g, m, e, g1, m1, v, sq, rg, lm⟩ := sqL_pos (k := 20) (by decide) py hy
      rw [e] at oy
      rw [sqL_zero, e, cmpQ_lt py]
      have ht : tOk (-g, m) := ⟨by show -g ≠ 0; grind, by
        show rd (-g) ≤ 200
        have := rd_mul g (-1)
        have h2 : rd (-1) ≤ 3 := by rw [show (-1 : Rat) = ((-1 : Int) : Rat) from rfl]; exact rd_int (by decide) (by decide)
        rw [show -g = g * -1 by grind]; omega, m1, by show dl (m : Int) ≤ 200; omega, sq⟩
      have hs := single (-g) m ht (by
        have := rd_mul g (-1)
        have h2 : rd (-1) ≤ 3 := by rw [show (-1 : Rat) = ((-1 : Int) : Rat) from rfl]; exact rd_int (by decide) (by decide)
        rw [show -g = g * -1 by grind]; omega)
      rw [if_neg (by grind)] at hs
      refine Tryz.sCompare2 [] [(g, m)] [(-g, m)] ⟨by simp, by simp⟩ oy ?_ (by simp) (-1) hs
      show List.Perm _ (List.filter _ [(g * -1, m)])
      rw [show g * -1 = -g by grind, List.filter_cons_of_pos (by show (!decide (-g = 0)) = true; rw [decide_eq_false (by grind)]; rfl), List.filter_nil]
  · obtain ⟨f, n, e, f1, n1, v, sq, rf, ln⟩ := sqL_pos (k := 20) (by decide) px hx
    rw [e] at ox
    rcases rnonneg hy0 with rfl | py
    · rw [sqL_zero, e, cmpQ_gt px]
      have hs := single f n (ox.2 _ (List.mem_singleton.2 rfl)) (by omega)
      rw [if_pos f1] at hs
      refine Tryz.sCompare2 [(f, n)] [] [(f, n)] ox ⟨by simp, by simp⟩ ?_ (by simp) 1 hs
      show List.Perm _ (List.filter _ [(f, n)])
      rw [List.filter_cons_of_pos (by show (!decide (f = 0)) = true; rw [decide_eq_false (by grind)]; rfl), List.filter_nil]
    · obtain ⟨g, m, e', g1, m1, v', sq', rg, lm⟩ := sqL_pos (k := 20) (by decide) py hy
      rw [e'] at oy
      rw [e, e']
      have hng : g * -1 = -g := by grind
      have rng : rd (-g) ≤ 23 := by
        have := rd_mul g (-1)
        have h2 : rd (-1) ≤ 3 := by rw [show (-1 : Rat) = ((-1 : Int) : Rat) from rfl]; exact rd_int (by decide) (by decide)
        rw [← hng]; omega
      have hdif : difF [(f, n)] [(g, m)] = List.filter (fun x => !decide (x.1 = 0)) (if isq (n * m) then [mrg (f, n) (-g, m)] else [(f, n), (-g, m)]) := by rw [← hng]; rfl
      by_cases hq : isq (n * m)
      · obtain ⟨w0, wp, wr⟩ := mrg_val f1 g1 n1 m1 hq
        rw [if_pos hq] at hdif
        rw [v, v'] at w0 wp
        have hrw : rd (mrg (f, n) (-g, m)).1 ≤ 99 := by
          have hroot : ∀ c : Nat, c ≠ 0 → dl (c : Int) ≤ 40 → rd (mkRat (nrt (n * m)) c) ≤ 40 := fun c hc hl => nrt_rd (by decide) hc hl (by have := dl_nmul n m; omega)
          unfold mrg
          split
          · have a1 := hroot m (by omega) (by omega)
            have a2 := rd_mul f (mkRat (nrt (n * m)) m)
            have a3 := rd_add (-g) (f * mkRat (nrt (n * m)) m)
            show rd (-g + f * mkRat (nrt (n * m)) m) ≤ 99
            omega
          · have a1 := hroot n (by omega) (by omega)
            have a2 := rd_mul (-g) (mkRat (nrt (n * m)) n)
            have a3 := rd_add f (-g * mkRat (nrt (n * m)) n)
            show rd (f + -g * mkRat (nrt (n * m)) n) ≤ 99
            omega
        generalize mrg (f, n) (-g, m) = w at *
        by_cases hz : w.1 = 0
        · have hxy := w0.1 hz
          rw [hxy, cmpQ_self]
          refine Tryz.sCompare2 _ _ [] ox oy ?_ .nil 0 Tryz.ssign0
          rw [hdif, List.filter_cons_of_neg (by simp [hz]), List.filter_nil]
        · have ht : tOk w := by
            refine ⟨hz, by omega, ?_, ?_, ?_⟩
            · rcases wr with h | h <;> rw [h] <;> assumption
            · rcases wr with h | h <;> rw [h] <;> omega
            · rcases wr with h | h
              · rw [h]; exact sq
              · rw [h]; exact sq'
          have hs := single w.1 w.2 ht hrw
          have hcmp : cmpQ x y = if 0 < w.1 then 1 else -1 := by
            split
            · rename_i hp; exact cmpQ_gt (wp.1 hp)
            · rename_i hp
              refine cmpQ_lt ?_
              have h1 : ¬y < x := fun h => hp (wp.2 h)
              have h2 : x ≠ y := fun h => hz (w0.2 h)
              grind
          rw [hcmp]
          refine Tryz.sCompare2 _ _ [w] ox oy ?_ (by simp) _ hs
          rw [hdif, List.filter_cons_of_pos (by simp [hz]), List.filter_nil]
      · rw [if_neg hq] at hdif
        have hnm : n ≠ m := fun h => hq (by rw [h]; exact isq_sq m)
        obtain ⟨R, hR, hp, hs⟩ := perm_two (a := (f, n)) (b := (-g, m)) hnm
        have hxy : x ≠ y := fun h => hq (At.alike_of f1 g1 n1 m1 (c := 1) (by decide) (by rw [v, v', h]; grind))
        have hdif2 : difF [(f, n)] [(g, m)] = [(f, n), (-g, m)] := by
          rw [hdif, List.filter_cons_of_pos (by show (!decide (f = 0)) = true; rw [decide_eq_false (by grind)]; rfl), List.filter_cons_of_pos (by show (!decide (-g = 0)) = true; rw [decide_eq_false (by grind)]; rfl), List.filter_nil]
        have tx := ox.2 (f, n) (List.mem_singleton.2 rfl)
        have ty : tOk (-g, m) := ⟨by show -g ≠ 0; grind, by show rd (-g) ≤ 200; omega, m1, by show dl (m : Int) ≤ 200; omega, sq'⟩
        have hok : SOk R := by
          refine ⟨by rcases hR with rfl | rfl <;> simp, fun z hz => ?_, fun i j z t hij hz ht => ?_⟩
          · have := hp.mem_iff.1 hz
            rcases List.mem_cons.1 this with rfl | h
            · exact tx
            · rw [List.mem_singleton.1 h]; exact ty
          · obtain ⟨i1, rfl⟩ := List.getElem?_eq_some_iff.1 hz
            obtain ⟨j1, rfl⟩ := List.getElem?_eq_some_iff.1 ht
            refine ⟨List.pairwise_iff_getElem.1 hs i j i1 j1 hij, ?_⟩
            rcases hR with rfl | rfl
            · have : i = 0 ∧ j = 1 := by simp at j1; omega
              obtain ⟨rfl, rfl⟩ := this
              exact hq
            · have : i = 0 ∧ j = 1 := by simp at j1; omega
              obtain ⟨rfl, rfl⟩ := this
              exact fun h => hq (by rw [Nat.mul_comm]; exact h)
        have hbd : ∀ z ∈ R, At.Bd (10 ^ 99) z.1 := fun z hz => by
          rcases List.mem_cons.1 (hp.mem_iff.1 hz) with rfl | h
          · exact rd_bd (show rd f ≤ 99 by omega)
          · rw [List.mem_singleton.1 h]; exact rd_bd (show rd (-g) ≤ 99 by omega)
        have hRl : R.length ≤ 10 := by rcases hR with rfl | rfl <;> simp
        have hRn : R ≠ [] := by rcases hR with rfl | rfl <;> simp
        have bs := big_sum f1 g1 rf rg ln lm
        have bs' := big_sum g1 f1 rg rf lm ln
        have fin : ∀ r : Int, r = 1 ∨ r = -1 → At.Shown [(f, n), (-g, m)] r → cmpQ x y = r → Con Tryz.prog Tryz.L 31 [sg [(f, n)], sg [(g, m)]] (.tup [.int .i64 (cmpQ x y), .int .i64 0]) := fun r hr hsh hc => by
          rw [hc]
          refine Tryz.sCompare2 _ _ R ox oy (by rw [hdif2]; exact hp) hs r (Tryz.ssignS R hok hRn hRl (m := 10 ^ 99) (by decide +kernel) hbd r hr ?_)
          rcases hR with rfl | rfl
          · exact hsh
          · exact hsh.swap
        rcases (show x < y ∨ y < x by grind) with hlt | hgt
        · refine fin (-1) (.inr rfl) ?_ (cmpQ_lt hlt)
          have h2 := At.shown_two (x := (g, m)) (y := (-f, n)) g1 (by show -f < 0; grind) (d := y - x) (by grind) (by
            show -f * -f * (n : Rat) + (y - x) ≤ g * g * (m : Rat)
            rw [v', show -f * -f * (n : Rat) = f * f * n by grind, v]; grind) (by
            show g * ((m : Rat) + 1) + 1 + - -f * ((n : Rat) + 1) < (y - x) * _
            rw [show - -f = f by grind]
            exact tiny_gap (by decide) hy hx hlt bs')
          exact At.Shown.neg (r := 1) (fun z hz => by
            rcases List.mem_cons.1 hz with rfl | h
            · show f ≠ 0; grind
            · rw [List.mem_singleton.1 h]; show -g ≠ 0; grind) (by
            show At.Shown [(-f, n), (- -g, m)] 1
            rw [show - -g = g by grind]
            exact h2.swap)
        · refine fin 1 (.inl rfl) ?_ (cmpQ_gt hgt)
          exact At.shown_two (x := (f, n)) (y := (-g, m)) f1 (by show -g < 0; grind) (d := x - y) (by grind) (by
            show -g * -g * (m : Rat) + (x - y) ≤ f * f * (n : Rat)
            rw [v, show -g * -g * (m : Rat) = g * g * m by grind, v']; grind) (by
            show f * ((n : Rat) + 1) + 1 + - -g * ((m : Rat) + 1) < (x - y) * _
            rw [show - -g = g by grind]
            exact tiny_gap (by decide) hx hy hgt bs)
end Go.Proofs

/-
  SURD: SurdSquares. Own work.
-/
namespace Go.Proofs
open Go Go.Pi Go.RowKit Go.Ar

theorem rt_small {n : Nat} (h : n < 10) : rt ((n : Int) : Rat) = [UInt8.ofNat (48 + n)] := by
  rw [rt_z, dd_tz]; exact dd_small h
theorem mk_nonneg {n d : Nat} (hd : 0 < d) : 0 ≤ mkRat (n : Int) d := by
  rw [Rat.mkRat_eq_div]
  have h1 := At.nat1 hd
  have h2 := nat_nonneg n
  show 0 ≤ (n : Rat) / (d : Rat)
  have hdp := nat_ne hd
  have e : (n : Rat) / (d : Rat) * (d : Rat) = n := by grind
  refine Rat.not_lt.1 fun h' => ?_
  have := Rat.mul_pos (show 0 < -((n : Rat) / (d : Rat)) by grind) h1
  grind
theorem Tryz.partsQ (x : Rat) (h : rd x ≤ 100) : Con Tryz.prog Tryz.L 19 [.str (rt x)] (.tup [.str (tz x.num), .str (tz (x.den : Int)), .bool true]) := by
  obtain ⟨a, b, hp, hq⟩ := Tryz.yparts (rt x) (by have := rt_len x; omega)
  obtain ⟨rfl, rfl⟩ := hq x rfl
  rw [dB_t ⟨x, rfl, by omega⟩] at hp
  exact hp
set_option maxRecDepth 100000 in
set_option maxHeartbeats 8000000 in
theorem Tryz.surdSquares (a b c d : Int) (ha : 0 ≤ a ∧ a ≤ 65535) (hb : 0 ≤ b ∧ b ≤ 65535) (hc : 0 ≤ c ∧ c ≤ 65535) (hd : 0 ≤ d ∧ d ≤ 65535) :
    Con Tryz.prog Tryz.L 12 [.agg [.int .u16 a, .int .u16 b], .agg [.int .u16 c, .int .u16 d]] (.bool true) := by
  obtain ⟨nA, hA, eA⟩ : ∃ n : Nat, n < 1000 ∧ a.tmod 1000 = (n : Int) := by obtain ⟨q1, q2⟩ := tmod_nat ha.1 1000 (by decide); exact ⟨_, q1, q2⟩
  obtain ⟨nB, hB, eB⟩ : ∃ n : Nat, n < 30 ∧ b.tmod 30 = (n : Int) := by obtain ⟨q1, q2⟩ := tmod_nat hb.1 30 (by decide); exact ⟨_, q1, q2⟩
  obtain ⟨nC, hC, eC⟩ : ∃ n : Nat, n < 1000 ∧ c.tmod 1000 = (n : Int) := by obtain ⟨q1, q2⟩ := tmod_nat hc.1 1000 (by decide); exact ⟨_, q1, q2⟩
  obtain ⟨nD, hD, eD⟩ : ∃ n : Nat, n < 30 ∧ d.tmod 30 = (n : Int) := by obtain ⟨q1, q2⟩ := tmod_nat hd.1 30 (by decide); exact ⟨_, q1, q2⟩
  have dl3 : ∀ n : Nat, n < 1000 → dl (n : Int) ≤ 3 := fun n h => dd_len_le (by decide) (by rw [Int.natAbs_natCast]; omega)
  have o1 := Tryz.xof (nA : Int) (by rw [inR_i64]; omega)
  have o2 := Tryz.xof ((1 + nB : Nat) : Int) (by rw [inR_i64]; omega)
  have o3 := Tryz.xof (nC : Int) (by rw [inR_i64]; omega)
  have o4 := Tryz.xof ((1 + nD : Nat) : Int) (by rw [inR_i64]; omega)
  have k1 := Tryz.ymake (nA : Int) (1 + nB) (by omega) (by have := dl3 nA hA; omega) (by have := dl3 (1 + nB) (by omega); omega)
  have k2 := Tryz.ymake (nC : Int) (1 + nD) (by omega) (by have := dl3 nC hC; omega) (by have := dl3 (1 + nD) (by omega); omega)
  have cB : ((1 + nB : Nat) : Int) = 1 + (nB : Int) := by omega
  have cD : ((1 + nD : Nat) : Int) = 1 + (nD : Int) := by omega
  rw [cB] at o2 k1
  rw [cD] at o4 k2
  have x0 := mk_nonneg (n := nA) (d := 1 + nB) (by omega)
  have y0 := mk_nonneg (n := nC) (d := 1 + nD) (by omega)
  have rx : rd (mkRat (nA : Int) (1 + nB)) ≤ 3 := rd_mk (by omega) (dl3 nA hA) (dl3 (1 + nB) (by omega))
  have ry : rd (mkRat (nC : Int) (1 + nD)) ≤ 3 := rd_mk (by omega) (dl3 nC hC) (dl3 (1 + nD) (by omega))
  generalize mkRat (nA : Int) (1 + nB) = x at *
  generalize mkRat (nC : Int) (1 + nD) = y at *
  have r4 : rd 4 ≤ 1 := by
    rw [show (4 : Rat) = ((4 : Int) : Rat) from rfl, rd_z]; exact dd_len_le (by decide) (by decide)
  have r2 : rd 2 ≤ 1 := by
    rw [show (2 : Rat) = ((2 : Int) : Rat) from rfl, rd_z]; exact dd_len_le (by decide) (by decide)
  have t4 : rt 4 = [52] := rt_small (n := 4) (by decide)
  have t2 : rt 2 = [50] := rt_small (n := 2) (by decide)
  have rxx := rd_mul x x
  have rx4 := rd_mul x 4
  have tm1 := Tryz.ytimes x x (by omega)
  have tm2 := Tryz.ytimes x 4 (by omega)
  rw [t4] at tm2
  have xx0 : 0 ≤ x * x := Rat.mul_nonneg x0 x0
  have x40 : 0 ≤ x * 4 := Rat.mul_nonneg x0 (by decide)
  have f1 := Tryz.ofS (x * x) xx0 (by omega)
  rw [sqL_sq x0] at f1
  have f2 := Tryz.fromS x (by omega)
  have f3 := Tryz.ofS (x * 4) x40 (by omega)
  have f4 := Tryz.ofS x x0 (by omega)
  have f5 := Tryz.ofS y y0 (by omega)
  have okx := sqL_ok x0 (show rd x ≤ 20 by omega)
  have ok4 := sqL_ok x40 (show rd (x * 4) ≤ 20 by omega)
  have hrd : ∀ z ∈ sqL x, rd z.1 ≤ 100 := fun z hz => by
    rcases rnonneg x0 with rfl | hp
    · rw [sqL_zero] at hz; cases hz
    · obtain ⟨f, n, e, _, _, _, _, h5, _⟩ := sqL_pos (k := 20) (by decide) hp (by omega)
      rw [e] at hz
      rw [List.mem_singleton.1 hz]; show rd f ≤ 100; omega
  have sc := Tryz.scale (sqL x) okx.ok 2 (by omega) (by decide) hrd
  rw [t2] at sc
  have okt : aOk (mulT 2 (sqL x)) := by
    refine ⟨by rw [mulT_len]; exact okx.1, fun z hz => ?_⟩
    obtain ⟨w, hw, rfl⟩ := List.mem_map.1 hz
    obtain ⟨q1, q2, q3, q4, q5⟩ := okx.2 w hw
    have h6 := hrd w hw
    have h7 := rd_mul w.1 2
    exact ⟨by show w.1 * 2 ≠ 0; grind, by show rd (w.1 * 2) ≤ 200; omega, q3, q4, q5⟩
  have eq1 := Tryz.lequal2 (sqL (x * 4)) (mulT 2 (sqL x)) ok4 okt (sq_four x0 (by omega) (by omega))
  have cp := Tryz.cmpS x y x0 y0 (by omega) (by omega)
  rw [cmpQ_cross] at cp
  have p1 := Tryz.partsQ x (by omega)
  have p2 := Tryz.partsQ y (by omega)
  have sm := Tryz.ssame (if x = 0 then [] else [(x, 1)]) (by split <;> simp)
  have nx := rd_num x; have ny := rd_num y
  have dx : dl (x.den : Int) ≤ rd x := rd_den x
  have dy : dl (y.den : Int) ≤ rd y := rd_den y
  have m1 := Tryz.xmul x.num (y.den : Int) (by omega) (by omega)
  have m2 := Tryz.xmul y.num (x.den : Int) (by omega) (by omega)
  have ml1 := dl_mul x.num (y.den : Int)
  have ml2 := dl_mul y.num (x.den : Int)
  have cm := Tryz.xcompare (x.num * y.den) (y.num * x.den) (by omega) (by omega)
  refine rule12 Tryz.hL rfl rfl rfl ?_
  (simp only [pc12, rs12, oU, oC]; refine ev ?_; try with_reducible exact trivial)
  refine callF_of Tryz.known ?_
  (refine ev ?_; try with_reducible exact trivial)
  refine ⟨by decide, by omega, ?_⟩
  rw [eA]
  refine callF_of o1 ?_
  (refine ev ?_; try with_reducible exact trivial)
  refine ⟨by decide, by omega, by omega, ?_⟩
  rw [eB]
  refine callF_of o2 ?_
  (refine ev ?_; try with_reducible exact trivial)
  refine callF_of k1 ?_
  (refine ev ?_; try with_reducible exact trivial)
  refine ⟨by decide, by omega, ?_⟩
  rw [eC]
  refine callF_of o3 ?_
  (refine ev ?_; try with_reducible exact trivial)
  refine ⟨by decide, by omega, by omega, ?_⟩
  rw [eD]
  refine callF_of o4 ?_
  (refine ev ?_; try with_reducible exact trivial)
  refine callF_of k2 ?_
  (refine ev ?_; try with_reducible exact trivial)
  refine callF_of tm1 ?_
  (refine ev ?_; try with_reducible exact trivial)
  refine callF_of f1 ?_
  (refine ev ?_; try with_reducible exact trivial)
  refine callF_of f2 ?_
  (refine ev ?_; try with_reducible exact trivial)
  refine callF_of tm2 ?_
  (refine ev ?_; try with_reducible exact trivial)
  refine callF_of f3 ?_
  (refine ev ?_; try with_reducible exact trivial)
  refine callF_of f4 ?_
  (refine ev ?_; try with_reducible exact trivial)
  refine callF_of sc ?_
  (refine ev ?_; try with_reducible exact trivial)
  refine callF_of f5 ?_
  (refine ev ?_; try with_reducible exact trivial)
  refine callF_of cp ?_
  (refine ev ?_; try with_reducible exact trivial)
  refine callF_of p1 ?_
  (refine ev ?_; try with_reducible exact trivial)
  refine callF_of p2 ?_
  (refine ev ?_; try with_reducible exact trivial)
  refine callF_of sm ?_
  (refine ev ?_; try with_reducible exact trivial)
  refine callF_of eq1 ?_
  (refine ev ?_; try with_reducible exact trivial)
  refine callF_of m1 ?_
  (refine ev ?_; try with_reducible exact trivial)
  refine callF_of m2 ?_
  (refine ev ?_; try with_reducible exact trivial)
  refine callF_of cm ?_
  (refine ev ?_; try with_reducible exact trivial)


end Go.Proofs
