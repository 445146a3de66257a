/-
  SURD: slices.SortFunc of at most 12 terms, in the plain walk. Own work.
-/
import Derived.Test.YtpddmheiacgejaaGreatDoorPj
import Derived.Test.YtpddmheiacgejaaGreatDoorSh
import Derived.Deep.LoopGhost
import Derived.Shelf.RegionOpenPlain
import Derived.Test.YtpddmheiacgejaaGreatDoorSg
namespace Go.Proofs
open Go Go.Pi Go.RowKit Go.Shelf Go.Ar

theorem Tryz.scmp (x y : Tm) (hx : dl (x.2 : Int) ≤ 9000) (hy : dl (y.2 : Int) ≤ 9000) : Con Tryz.prog Tryz.L 125 ([.agg (tD x), .agg (tD y)] ++ []) (.int .i64 (cmpZ (x.2 : Int) (y.2 : Int))) := by
  refine rule125 Tryz.hL rfl rfl rfl ?_
  simp only [pc125, rs125, tD, List.append_nil, evX, evY, evZ, forall_const, implies_true, initE, stepF, D.clean, mvF, moF, tkF, shF, ariF, ciF, catF, scF, ebF, eqF, eqOk, eqPr, enF, notF, ngF, cvF, csF, csbF, lenF, lenSF, ixF, iaF, PX.slot, iaAF, faF, ldF, D.mem, stF, bxF, mkSF, boundF, fldF, mmF2, D.plain, D.isPure, optAll, D.dull, callVF, splice, D.cells, D.one, sets, resT, D.flat, D.flat0, D.simple, Nat.reduceBNe, Nat.reduceLT, reduceIte, Nat.reduceEqDiff, Nat.reduceAdd, Nat.reduceMul, Nat.reduceSub, Nat.reduceLeDiff, Int.reduceToNat, Int.reduceLT, Int.reduceLE, Int.reduceEq, Int.reduceNeg, Int.reduceSub, Int.reduceAdd, Int.reduceMul, stG_own]
  refine callF_of (Tryz.compare (x.2 : Int) (y.2 : Int) (by omega) (by omega)) ?_
  (refine ev ?_; try with_reducible exact trivial)
theorem rep_tm (S : Nat → Nat → Prop) (W : World) (x : Tm) (h1 : rd x.1 ≤ 2000) (h2 : dl (x.2 : Int) ≤ 200) : Rep S W (.agg (tD x)) (.agg (stc x).toArray) := by
  refine Rep.agg (tD x) (stc x) rfl (by simp [tD, D.one]) fun i d v hd hv => ?_
  match i with
  | 0 => cases hd; cases hv; exact .str _ (by have := rt_len x.1; unfold maxLen; omega)
  | 1 => cases hd; cases hv; exact .str _ (by have := tz_dl (x.2 : Int); unfold maxLen; omega)
  | i + 2 => simp [tD] at hd
theorem Tryz.scmp_calls (x y : Tm) (hx : rd x.1 ≤ 2000 ∧ dl (x.2 : Int) ≤ 200) (hy : rd y.1 ≤ 2000 ∧ dl (y.2 : Int) ≤ 200) (W : World) (hL : Tryz.L W) :
    Calls Tryz.prog 125 #[.agg (stc x).toArray, .agg (stc y).toArray] W fun e W' => e = .returned (.int .i64 (cmpZ (x.2 : Int) (y.2 : Int))) ∧ Below W.heap.size W W' := by
  refine Calls.mono ((Tryz.scmp x y (by omega) (by omega)).2 (fun _ _ => False) W [.agg (stc x).toArray, .agg (stc y).toArray] (fun _ _ h => h.elim) hL (Reps.cons (rep_tm _ _ x hx.1 hx.2) (Reps.cons (rep_tm _ _ y hy.1 hy.2) .nil))) ?_
  rintro e W' ⟨v, rfl, hb, hr⟩
  cases hr
  exact ⟨rfl, hb⟩

/-- in order but for one place -/
def ordB (c : List Tm) (i j : Nat) : Prop := ∀ a b x y, a < b → b ≤ i → b ≠ j → c[a]? = some x → c[b]? = some y → x.2 ≤ y.2
def ordA (c : List Tm) (i : Nat) : Prop := ∀ a b x y, a < b → b < i → c[a]? = some x → c[b]? = some y → x.2 ≤ y.2
theorem ordB_of {c : List Tm} {i : Nat} (h : ordA c i) : ordB c i i := fun a b x y h1 h2 h3 => h a b x y h1 (by omega)
theorem ordA_zero {c : List Tm} {i : Nat} (h : ordB c i 0) : ordA c (i + 1) := fun a b x y h1 h2 => h a b x y h1 (by omega) (by omega)
theorem ordA_stop {c : List Tm} {i j : Nat} {p q : Tm} (h : ordB c i (j + 1)) (hp : c[j]? = some p) (hq : c[j + 1]? = some q) (hle : p.2 ≤ q.2) : ordA c (i + 1) := by
  intro a b x y h1 h2 ha hb
  by_cases e : b = j + 1
  · subst e
    rw [hq] at hb; cases hb
    by_cases e2 : a = j
    · subst e2; rw [hp] at ha; cases ha; exact hle
    · exact Nat.le_trans (h a j x p (by omega) (by omega) (by omega) ha hp) hle
  · exact h a b x y h1 (by omega) e ha hb
theorem ordB_swap {c : List Tm} {i j : Nat} {p q : Tm} (h : ordB c i (j + 1)) (hj : j + 1 ≤ i) (hp : c[j]? = some p) (hq : c[j + 1]? = some q) (hlt : q.2 < p.2) : ordB ((c.set (j + 1) p).set j q) i j := by
  have hl : j + 1 < c.length := (List.getElem?_eq_some_iff.1 hq).1
  have g : ∀ k, ((c.set (j + 1) p).set j q)[k]? = if k = j then some q else if k = j + 1 then some p else c[k]? := by
    intro k
    rw [List.getElem?_set, List.getElem?_set, List.length_set]
    by_cases e1 : k = j
    · rw [if_pos e1.symm, if_pos (by omega), if_pos e1]
    · rw [if_neg (Ne.symm e1), if_neg e1]
      by_cases e2 : k = j + 1
      · rw [if_pos e2.symm, if_pos (by omega), if_pos e2]
      · rw [if_neg (Ne.symm e2), if_neg e2]
  intro a b x y h1 h2 h3 ha hb
  rw [g] at ha hb
  rw [if_neg h3] at hb
  by_cases eb : b = j + 1
  · rw [if_pos eb] at hb; cases hb
    by_cases ea : a = j
    · rw [if_pos ea] at ha; cases ha; omega
    · rw [if_neg ea, if_neg (by omega)] at ha
      exact h a j x p (by omega) (by omega) (by omega) ha hp
  · rw [if_neg eb] at hb
    by_cases ea : a = j
    · rw [if_pos ea] at ha; cases ha
      exact h (j + 1) b q y (by omega) h2 eb hq hb
    · rw [if_neg ea] at ha
      by_cases ea2 : a = j + 1
      · rw [if_pos ea2] at ha; cases ha
        exact h j b p y (by omega) h2 eb hp hb
      · rw [if_neg ea2] at ha
        exact h a b x y h1 h2 eb ha hb
theorem swap_perm {c : List Tm} {j : Nat} {p q : Tm} (hp : c[j]? = some p) (hq : c[j + 1]? = some q) : ((c.set (j + 1) p).set j q).Perm c := by
  obtain ⟨h1, rfl⟩ := List.getElem?_eq_some_iff.1 hp
  obtain ⟨h2, rfl⟩ := List.getElem?_eq_some_iff.1 hq
  exact List.set_set_perm h2 h1
theorem ordA_sorted {c : List Tm} (h : ordA c c.length) : c.Pairwise fun x y => x.2 ≤ y.2 := by
  rw [List.pairwise_iff_getElem]
  intro a b ha hb hab
  exact h a b _ _ hab hb (List.getElem?_eq_getElem ha) (List.getElem?_eq_getElem hb)

set_option maxRecDepth 100000 in
set_option maxHeartbeats 4000000 in
theorem Tryz.sinsertion (w0 W : World) (v : Value) (l : List Tm) (hL0 : Tryz.L w0) (hbw : Below w0.heap.size w0 W) (hown : W.ownsRow w0.heap.size 45 2 v l.length (tcs l)) (hlen : l.length ≤ 12)
    (hl : ∀ y ∈ l, rd y.1 ≤ 2000 ∧ dl (y.2 : Int) ≤ 200) :
    Calls Tryz.prog 163 #[v, .int .i64 0, .int .i64 l.length, .func (.func 125) #[] #[]] W fun e W' => e = .returned (.tuple #[]) ∧
      ∃ r : List Tm, r.Perm l ∧ (r.Pairwise fun x y => x.2 ≤ y.2) ∧ W'.ownsRow w0.heap.size 45 2 v l.length (tcs r) ∧ W.grownBy W' v.ownBlock ∧ Below w0.heap.size w0 W' := by
  have mixed : Tryz.prog.follows .mixedOrders = true := by kernel_rfl
  have t0 := Tryz.underlying24; have a0 := Tryz.isAgg24; have z0 := Tryz.sizeOf24; have v0 := Tryz.zeroValue24; have u0 := run_underlying Tryz.underlying24
  have t1 := Tryz.underlying45; have a1 := Tryz.isAgg45; have z1 := Tryz.sizeOf45; have v1 := Tryz.zeroValue45; have u1 := run_underlying Tryz.underlying45
  have t3 := Tryz.underlying4; have a3 := Tryz.isAgg4; have z3 := Tryz.sizeOf4; have v3 := Tryz.zeroValue4; have u3 := run_underlying Tryz.underlying4
  have t4 := Tryz.underlying3; have a4 := Tryz.isAgg3; have z4 := Tryz.sizeOf3; have v4 := Tryz.zeroValue3; have u4 := run_underlying Tryz.underlying3
  have vsl : ∃ ad cap, v = .slice ad l.length cap := by
    rcases hown.2 with ⟨h1, h2⟩ | ⟨g, cap, cur, h1, _⟩
    · exact ⟨none, 0, by rw [h1, h2]⟩
    · exact ⟨_, _, h1⟩
  obtain ⟨ad, cap, rfl⟩ := vsl
  have HL : Hid (∀ y ∈ l, rd y.1 ≤ 2000 ∧ dl (y.2 : Int) ≤ 200) := hl
  clear hl
  go_enter Tryz.func163, Tryz.ntmps163
  go_wp2
  go_loopg [8] (l.length) (fun g1 vi wr => ∃ (i : Nat) (c : List Tm), vi = .int .i64 i ∧ 1 ≤ i ∧ i ≤ l.length + 1 ∧ l.length ≤ g1 + i ∧ c.Perm l ∧ Hid (ordA c i) ∧ wr.ownsRow w0.heap.size 45 2 (.slice ad l.length cap) l.length (tcs c) ∧ W.grownBy wr (Value.ownBlock (.slice ad l.length cap)))
  case atStart => exact ⟨1, l, by go_num, by omega, by omega, by omega, List.Perm.refl _, fun a b x y h1 h2 => by omega, hown, ⟨rfl, rfl, rfl, Nat.le_refl _, fun _ _ _ => rfl⟩⟩
  case round =>
    obtain ⟨i, c, rfl, hi1, hi2, hg1, hpm, HO, hwn, hgr⟩ := hrel
    by_cases hlt : i < l.length
    · have hltz : (i : Int) < (l.length : Int) := by omega
      have hadf : ∃ g, ad = some ⟨g, 0, none⟩ := by
        rcases hown.2 with ⟨h1, h2⟩ | ⟨g, cap, cur, h1, _⟩
        · omega
        · cases h1; exact ⟨g, rfl⟩
      obtain ⟨g, rfl⟩ := hadf
      go_wp2
      go_loopg [9] i (fun g2 vj wr2 => ∃ (j : Nat) (d : List Tm), vj = .int .i64 j ∧ j ≤ i ∧ j ≤ g2 ∧ d.Perm l ∧ Hid (ordB d i j) ∧ wr2.ownsRow w0.heap.size 45 2 (.slice (some ⟨g, 0, none⟩) l.length cap) l.length (tcs d) ∧ W.grownBy wr2 (some g))
      case atStart => exact ⟨i, c, rfl, Nat.le_refl _, Nat.le_refl _, hpm, ordB_of HO.out, hwn, hgr⟩
      case round =>
        clear hwn hgr hpm HO
        obtain ⟨j, d, rfl, hji, hg2, hpd, HI, hwd, hgd⟩ := hrel
        have hdl : d.length = l.length := hpd.length_eq
        by_cases hj0 : 0 < j
        · obtain ⟨jp, rfl⟩ : ∃ jp, j = jp + 1 := ⟨j - 1, by omega⟩
          have hjz : decide ((jp : Int) + 1 > 0) = true := decide_eq_true (by omega)
          have hjz2 : (0 : Int) < (jp : Int) + 1 := by omega
          have hp : d[jp]? = some (d[jp]'(by omega)) := List.getElem?_eq_getElem (by omega)
          generalize d[jp]'(by omega) = p at hp
          have hq : d[jp + 1]? = some (d[jp + 1]'(by omega)) := List.getElem?_eq_getElem (by omega)
          generalize d[jp + 1]'(by omega) = q at hq
          have hpb := HL.out p (hpd.mem_iff.1 (List.mem_of_getElem? hp))
          have hqb := HL.out q (hpd.mem_iff.1 (List.mem_of_getElem? hq))
          have hLW : ∀ w', W.grownBy w' (some g) → Tryz.L w' := fun w' h => Tryz.hL w0 _ hL0 (hbw.grown h hbw.size (fun k hk => by cases hk; exact (hown.lt g rfl).1))
          obtain ⟨cp, cp'⟩ := tcs_at hp
          obtain ⟨cq, cq'⟩ := tcs_at hq
          rw [← hwd.cellAt (jp * 2) (by omega)] at cp
          rw [← hwd.cellAt (jp * 2 + 1) (by omega)] at cp'
          rw [← hwd.cellAt ((jp + 1) * 2) (by omega)] at cq
          rw [← hwd.cellAt ((jp + 1) * 2 + 1) (by omega)] at cq'
          have hwp : IntKind.i64.wrap (jp : Int) = (jp : Int) := by rw [IntKind.wrap_i64]; omega
          have jz : (jp : Int) + 1 < (l.length : Int) := by omega
          have jz1 : (jp : Int) < (l.length : Int) := by omega
          have p0 : (0 : Int) ≤ (jp : Int) + 1 := by omega
          have e0 : ((jp : Int) + 1).toNat = jp + 1 := by omega
          have hGd : W.grownBy wr.drew (some g) := ⟨hgd.os, hgd.tape, hgd.output, hgd.size, hgd.block⟩
          have HW : Hid (wr.drew.ownsRow w0.heap.size 45 2 (.slice (some ⟨g, 0, none⟩) l.length cap) l.length (tcs d) ∧ W.grownBy wr.drew (some g)) := ⟨hwd.drew, hGd⟩
          have HX : Hid (d.Perm l ∧ d[jp]? = some p ∧ d[jp + 1]? = some q) := ⟨hpd, hp, hq⟩
          have hcm := Tryz.scmp_calls q p hqb hpb wr.drew (hLW _ hGd)
          clear hwd hgd hGd hpd hp hq
          by_cases hc : q.2 < p.2
          · have ec : decide (cmpZ (q.2 : Int) (p.2 : Int) < 0) = true := by unfold cmpZ; simp; omega
            go_wp2_with fail
            go_region_held3 (fun w' => w'.cell? ⟨g, jp * 2, none⟩ = some (.string ⟨(rt p.1).toArray⟩) ∧ w'.cell? ⟨g, jp * 2 + 1, none⟩ = some (.string ⟨(tz (p.2 : Int)).toArray⟩) ∧ w'.cell? ⟨g, (jp + 1) * 2, none⟩ = some (.string ⟨(rt q.1).toArray⟩) ∧ w'.cell? ⟨g, (jp + 1) * 2 + 1, none⟩ = some (.string ⟨(tz (q.2 : Int)).toArray⟩)) (go_keep)
              (first
                | (go_at_call 125; refine Calls.mono hcm ?_; rintro e W5 ⟨rfl, hb5⟩; have hw5 := HW.out.1.kept (gb_below (r := none) hb5) (.inr (by simp [Value.ownBlock])); have d1 := (hw5.cellAt (jp * 2) (by omega)).trans (tcs_at HX.out.2.1).1; have d2 := (hw5.cellAt (jp * 2 + 1) (by omega)).trans (tcs_at HX.out.2.1).2; have d3 := (hw5.cellAt ((jp + 1) * 2) (by omega)).trans (tcs_at HX.out.2.2).1; have d4 := (hw5.cellAt ((jp + 1) * 2 + 1) (by omega)).trans (tcs_at HX.out.2.2).2; have hG5 := gb_trans HW.out.2 (gb_below (r := some g) hb5); clear hb5))
            all_goals clear hcm cp cp' cq cq'
            all_goals go_wp2_with fail
            have f1 := hw5.frozenAt (jp * 2)
            have f2 := hw5.frozenAt (jp * 2 + 1)
            have f3 := hw5.frozenAt ((jp + 1) * 2)
            have f4 := hw5.frozenAt ((jp + 1) * 2 + 1)
            have n1 : (jp + 1) * 2 ≠ jp * 2 := by omega
            have n2 : (jp + 1) * 2 + 1 ≠ jp * 2 := by omega
            have n3 : (jp + 1) * 2 ≠ jp * 2 + 1 := by omega
            have n4 : (jp + 1) * 2 + 1 ≠ jp * 2 + 1 := by omega
            go_big_region_o
            all_goals go_wp2
            go_roundg jp
            case measure => omega
            case rel =>
              have st1 := hw5.drew.stored ((jp + 1) * 2) (.string ⟨(rt p.1).toArray⟩)
              have st2 := st1.1.stored ((jp + 1) * 2 + 1) (.string ⟨(tz (p.2 : Int)).toArray⟩)
              have g2 := gb_trans st1.2 st2.2
              rw [tcs_set d (jp + 1) p (by omega)] at st2
              have st3 := st2.1.stored (jp * 2) (.string ⟨(rt q.1).toArray⟩)
              have st4 := st3.1.stored (jp * 2 + 1) (.string ⟨(tz (q.2 : Int)).toArray⟩)
              have g4 := gb_trans g2 (gb_trans st3.2 st4.2)
              rw [tcs_set (d.set (jp + 1) p) jp q (by rw [List.length_set]; omega)] at st4
              refine ⟨jp, (d.set (jp + 1) p).set jp q, by first | rfl | go_num | (congr 1; omega), by omega, Nat.le_refl _, (swap_perm HX.out.2.1 HX.out.2.2).trans HX.out.1, (show Hid _ from ordB_swap HI.out hji HX.out.2.1 HX.out.2.2 hc), st4.1, gb_trans hG5 ?_⟩
              exact ⟨g4.os, g4.tape, g4.output, g4.size, g4.block⟩
          · have ec : decide (cmpZ (q.2 : Int) (p.2 : Int) < 0) = false := by unfold cmpZ; simp; omega
            go_wp2_with fail
            go_region_held3 (fun w' => w'.cell? ⟨g, jp * 2, none⟩ = some (.string ⟨(rt p.1).toArray⟩) ∧ w'.cell? ⟨g, jp * 2 + 1, none⟩ = some (.string ⟨(tz (p.2 : Int)).toArray⟩) ∧ w'.cell? ⟨g, (jp + 1) * 2, none⟩ = some (.string ⟨(rt q.1).toArray⟩) ∧ w'.cell? ⟨g, (jp + 1) * 2 + 1, none⟩ = some (.string ⟨(tz (q.2 : Int)).toArray⟩)) (go_keep)
              (first
                | (go_at_call 125; refine Calls.mono hcm ?_; rintro e W5 ⟨rfl, hb5⟩; have hw5 := HW.out.1.kept (gb_below (r := none) hb5) (.inr (by simp [Value.ownBlock])); have d1 := (hw5.cellAt (jp * 2) (by omega)).trans (tcs_at HX.out.2.1).1; have d2 := (hw5.cellAt (jp * 2 + 1) (by omega)).trans (tcs_at HX.out.2.1).2; have d3 := (hw5.cellAt ((jp + 1) * 2) (by omega)).trans (tcs_at HX.out.2.2).1; have d4 := (hw5.cellAt ((jp + 1) * 2 + 1) (by omega)).trans (tcs_at HX.out.2.2).2; have hG5 := gb_trans HW.out.2 (gb_below (r := some g) hb5); clear hb5))
            all_goals clear hcm cp cp' cq cq'
            all_goals go_wp2_with fail
            all_goals go_roundg (l.length - (i + 1))
            case measure => omega
            case rel => exact ⟨i + 1, d, by go_num, by omega, by omega, by omega, HX.out.1, (show Hid _ from ordA_stop HI.out HX.out.2.1 HX.out.2.2 (by omega)), hw5, hG5⟩
        · obtain rfl : j = 0 := by omega
          have hjz : decide ((0 : Int) > 0) = false := by decide
          have hgd' : W.grownBy wr.drew (some g) := ⟨hgd.os, hgd.tape, hgd.output, hgd.size, hgd.block⟩
          have HW : Hid (wr.drew.ownsRow w0.heap.size 45 2 (.slice (some ⟨g, 0, none⟩) l.length cap) l.length (tcs d) ∧ W.grownBy wr.drew (some g) ∧ d.Perm l) := ⟨hwd.drew, hgd', hpd⟩
          clear hwd hgd hgd' hpd
          go_wp2_with fail
          go_big_region_o
          all_goals go_wp2
          go_roundg (l.length - (i + 1))
          case measure => omega
          case rel => exact ⟨i + 1, d, by go_num, by omega, by omega, by omega, HW.out.2.2, (show Hid _ from ordA_zero HI.out), HW.out.1, HW.out.2.1⟩
    · have hltz : ¬ (i : Int) < (l.length : Int) := by omega
      have hso : c.Pairwise fun x y => x.2 ≤ y.2 := ordA_sorted fun a b x y h1 h2 => HO.out a b x y h1 (by have := hpm.length_eq; omega)
      clear HO
      go_wp2
      go_end0
      exact ⟨rfl, c, hpm, hso, hwn, hgr, hbw.grown hgr hbw.size (fun k hk => (hown.lt k hk).1)⟩
end Go.Proofs

/-
  SURD: slices.DeleteFunc of the terms with factor zero, in the plain walk. Own work.
-/
namespace Go.Proofs
open Go Go.Pi Go.RowKit Go.Shelf Go.Ar

theorem ixA_ge {α : Type} {p : α → Bool} {l : List α} {k : Nat} (h : ¬0 ≤ ixA p l k) : ∀ x ∈ l, p x = false := by
  rw [ixA_any] at h
  intro x hx
  cases hp : p x with
  | false => rfl
  | true => exact absurd (List.any_eq_true.2 ⟨x, hx, hp⟩) h
theorem ixA_small {α : Type} {p : α → Bool} : ∀ {l : List α} {k : Nat}, ixA p l k = -1 ∨ ((k : Int) ≤ ixA p l k ∧ ixA p l k < k + l.length)
  | [], k => .inl rfl
  | a :: l, k => by
    have ih := ixA_small (p := p) (l := l) (k := k + 1)
    simp only [ixA, List.length_cons]
    split
    · right; omega
    · rcases ih with h | h
      · exact .inl h
      · right; omega

theorem ixA_take {p : Tm → Bool} : ∀ (l : List Tm) (k : Nat), 0 ≤ ixA p l k → ∃ i, i < l.length ∧ ixA p l k = (k + i : Nat) ∧ (l.take (i + 1)).filter (fun x => !p x) = l.take i
  | [], k, h => absurd h (by simp [ixA])
  | x :: l, k, h => by
    by_cases hx : p x = true
    · exact ⟨0, by simp, by simp [ixA, hx], by simp [hx]⟩
    · have e : ixA p (x :: l) k = ixA p l (k + 1) := by simp [ixA, hx]
      rw [e] at h
      obtain ⟨i, h1, h2, h3⟩ := ixA_take l (k + 1) h
      refine ⟨i + 1, by simp; omega, by rw [e, h2]; congr 1; omega, ?_⟩
      rw [List.take_succ_cons, List.filter_cons_of_pos (by simpa using hx), h3, List.take_succ_cons]

theorem Tryz.szero (x : Tm) (hx : rd x.1 ≤ 2000) : Con Tryz.prog Tryz.L 123 ([.agg (tD x)] ++ []) (.bool (decide (x.1 = 0))) := by
  refine rule123 Tryz.hL rfl rfl rfl ?_
  simp only [pc123, rs123, tD, List.append_nil, evX, evY, evZ, forall_const, implies_true, initE, stepF, D.clean, mvF, moF, tkF, shF, ariF, ciF, catF, scF, ebF, eqF, eqOk, eqPr, enF, notF, ngF, cvF, csF, csbF, lenF, lenSF, ixF, iaF, PX.slot, iaAF, faF, ldF, D.mem, stF, bxF, mkSF, boundF, fldF, mmF2, D.plain, D.isPure, optAll, D.dull, callVF, splice, D.cells, D.one, sets, resT, D.flat, D.flat0, D.simple, Nat.reduceBNe, Nat.reduceLT, reduceIte, Nat.reduceEqDiff, Nat.reduceAdd, Nat.reduceMul, Nat.reduceSub, Nat.reduceLeDiff, Int.reduceToNat, Int.reduceLT, Int.reduceLE, Int.reduceEq, Int.reduceNeg, Int.reduceSub, Int.reduceAdd, Int.reduceMul, stG_own]
  rw [rt_zero, ← dB_dec]
/-- an own row read as data -/
theorem rep_ownS {W : World} {S : Nat → Nat → Prop} {base e : Nat} {v : Value} {l : List Tm} (h : W.ownsRow base e 2 v l.length (tcs l)) (hl : ∀ y ∈ l, rd y.1 ≤ 2000 ∧ dl (y.2 : Int) ≤ 200) (hS : ∀ g j, base ≤ g → g < W.heap.size → S g j) : Rep S W (sg l) v := by
  have hr : ∀ (i : Nat) (d : D) (u : Value), (tms l)[i]? = some d → (tcs l)[i]? = some u → Rep S W d u := by
    clear h
    induction l with
    | nil => intro i d u hd; simp [rows] at hd
    | cons x l ih =>
      obtain ⟨h1, h2⟩ := hl x (List.mem_cons_self ..)
      intro i d u hd hu
      match i with
      | 0 => cases hd; cases hu; exact .str _ (by have := rt_len x.1; unfold maxLen; omega)
      | 1 => cases hd; cases hu; exact .str _ (by have := tz_dl (x.2 : Int); unfold maxLen; omega)
      | i + 2 => exact ih (fun y hy => hl y (List.mem_cons_of_mem _ hy)) i d u hd hu
  have h1 : ∀ d ∈ tms l, d.one = true := by
    intro d hd
    obtain ⟨x, _, hx⟩ := List.mem_flatMap.1 hd
    simp only [tD, List.mem_cons, List.not_mem_nil, or_false] at hx
    rcases hx with rfl | rfl <;> rfl
  rcases h.2 with ⟨rfl, h0⟩ | ⟨g, cap, cur, rfl, hbg, hg, hn, hc, _, _⟩
  · obtain rfl : l = [] := List.length_eq_zero_iff.1 h0
    exact .sl0 none 0 (Nat.zero_le _)
  · refine .sl l.length (tms l) g 0 cap (tcs l) (by rw [rows_length tD_len, tcs_len]) h1 hn hc (fun i u hu => ⟨hS g _ hbg (Array.getElem?_eq_some_iff.1 hg).1, ?_⟩) hr
    have hlt := (List.getElem?_eq_some_iff.1 hu).1
    rw [tcs_len] at hlt
    rw [Nat.zero_add, h.cellAt i hlt]; exact hu

theorem rep_own {W : World} {base e : Nat} {v : Value} {l : List Tm} (h : W.ownsRow base e 2 v l.length (tcs l)) (hl : ∀ y ∈ l, rd y.1 ≤ 2000 ∧ dl (y.2 : Int) ≤ 200) : Rep (fun b _ => b < W.heap.size) W (sg l) v := rep_ownS h hl fun _ _ _ h => h

/-- clear(s[i:]) of an own row -/
theorem run_clear_row {P : Program} {w : World} {t e base n cap g i : Nat} {xs : List Value} {z : Value} (ht : P.underlying t = some (.slice e)) (hv : ∀ w, (zeroValue e).run P w = .ok z w) (hz : z.cells.size = 2) (hz1 : ∀ u ∈ z.cells, u.oneCell' = true)
    (h : w.ownsRow base e 2 (.slice (some ⟨g, 0, none⟩) n cap) n xs) (hi : i < n) :
    ∃ w', (∀ ty, (Builtin.clear_ #[t] ty #[.slice (some ⟨g, i * 2, none⟩) (n - i) (cap - i)]).run P w = .ok (.tuple #[]) w') ∧ w'.ownsRow base e 2 (.slice (some ⟨g, 0, none⟩) i cap) i (xs.take (i * 2)) ∧ w.grownBy w' (some g) := by
  have hxl := h.1
  rcases h.2 with ⟨h1, _⟩ | ⟨g', cap', cur, h1, hbg, hg, hnc, hcm, hcs, htk⟩
  · simp at h1
  · simp only [Value.slice.injEq, Option.some.injEq, Addr.mk.injEq, and_true, true_and] at h1
    obtain ⟨rfl, rfl⟩ := h1
    have hzs : (Builtin.zeroCells z.cells (n - i)).size = (n - i) * 2 := by rw [size_zeroCells, hz]
    have hfit : i * 2 + 0 + (Builtin.zeroCells z.cells (n - i)).toList.length ≤ cur.size := by rw [Array.length_toList, hzs, hcs]; omega
    have hone : ∀ u ∈ (Builtin.zeroCells z.cells (n - i)).toList, u.oneCell' = true := fun u hu => by
      obtain ⟨q, hq⟩ := List.getElem?_of_mem hu
      simp [Builtin.zeroCells, Array.getElem?_ofFn] at hq
      obtain ⟨hq1, _, rfl⟩ := hq
      have hlt : hq1 % z.cells.size < z.cells.size := Nat.mod_lt _ (by omega)
      rw [getElem!_pos z.cells _ hlt]
      exact hz1 _ (Array.getElem_mem hlt)
    have hex := run_storeCells_at P g (i * 2) e (Builtin.zeroCells z.cells (n - i)).toList 0 cur w hg hfit hone
    simp only [Nat.add_zero] at hex
    generalize hnew : (cur.toList.take (i * 2) ++ (Builtin.zeroCells z.cells (n - i)).toList ++ cur.toList.drop (i * 2 + (Builtin.zeroCells z.cells (n - i)).toList.length)).toArray = arr at hex
    have hnl : arr.toList = cur.toList.take (i * 2) ++ ((Builtin.zeroCells z.cells (n - i)).toList ++ cur.toList.drop (i * 2 + (Builtin.zeroCells z.cells (n - i)).toList.length)) := by rw [← hnew]; simp
    have e1 : (cur.toList.take (i * 2)).length = i * 2 := by rw [List.length_take, Array.length_toList]; omega
    refine ⟨w.setRow g arr, fun ty => ?_, ⟨?_, .inr ⟨g, cap, arr, rfl, hbg, setRow_heap w g cur arr e (0, 0) hg, by omega, hcm, ?_, ?_⟩⟩, ⟨rfl, rfl, rfl, by simp, fun k _ hk => setRow_other w g k arr (fun e => hk (by simp [e]))⟩⟩
    · obtain ⟨q, hq⟩ : ∃ q, n - i = q + 1 := ⟨n - i - 1, by omega⟩
      rw [hq] at hex ⊢
      simp [Builtin.clear_, run_underlying ht, hv, hex]
    · rw [List.length_take]; omega
    · have := congrArg List.length hnl
      rw [List.length_append, List.length_append, e1, List.length_drop, Array.length_toList, Array.length_toList, Array.length_toList] at this
      simp only [Array.length_toList] at hfit
      omega
    · rw [hnl, List.take_left' e1, ← htk, List.take_take, Nat.min_eq_left (by omega)]

set_option maxRecDepth 100000 in
set_option maxHeartbeats 4000000 in
theorem Tryz.sdeleteO (w0 W : World) (v : Value) (l : List Tm) (hL0 : Tryz.L w0) (hbw : Below w0.heap.size w0 W) (hown : W.ownsRow w0.heap.size 45 2 v l.length (tcs l)) (hlen : l.length ≤ 100)
    (hl : ∀ y ∈ l, rd y.1 ≤ 2000 ∧ dl (y.2 : Int) ≤ 200) :
    Calls Tryz.prog 122 #[v, .func (.func 123) #[] #[]] W fun e W' => ∃ v', e = .returned v' ∧
      W'.ownsRow w0.heap.size 45 2 v' (l.filter fun x => !decide (x.1 = 0)).length (tcs (l.filter fun x => !decide (x.1 = 0))) ∧ W.grownBy W' v.ownBlock ∧ Below w0.heap.size w0 W' := by
  have mixed : Tryz.prog.follows .mixedOrders = true := by kernel_rfl
  have t0 := Tryz.underlying25; have a0 := Tryz.isAgg25; have z0 := Tryz.sizeOf25; have v0 := Tryz.zeroValue25; have u0 := run_underlying Tryz.underlying25
  have t1 := Tryz.underlying45; have a1 := Tryz.isAgg45; have z1 := Tryz.sizeOf45; have v1 := Tryz.zeroValue45; have u1 := run_underlying Tryz.underlying45
  have t3 := Tryz.underlying4; have a3 := Tryz.isAgg4; have z3 := Tryz.sizeOf4; have v3 := Tryz.zeroValue4; have u3 := run_underlying Tryz.underlying4
  have t4 := Tryz.underlying3; have a4 := Tryz.isAgg3; have z4 := Tryz.sizeOf3; have v4 := Tryz.zeroValue3; have u4 := run_underlying Tryz.underlying3
  have vsl : ∃ ad cap, v = .slice ad l.length cap := by
    rcases hown.2 with ⟨h1, h2⟩ | ⟨g, cap, cur, h1, _⟩
    · exact ⟨none, 0, by rw [h1, h2]⟩
    · exact ⟨_, _, h1⟩
  obtain ⟨ad, cap, rfl⟩ := vsl
  have HL : Hid (∀ y ∈ l, rd y.1 ≤ 2000 ∧ dl (y.2 : Int) ≤ 200) := hl
  have hci := (Tryz.sindex (f := 123) (caps := []) (fun x => decide (x.1 = 0)) l (by omega) (fun x hx => Tryz.szero x (hl x hx).1)).2 (fun b _ => b < W.heap.size) W [.slice ad l.length cap, .func (.func 123) #[] #[]] (fun b j h => h) (Tryz.hL w0 W hL0 hbw) (Reps.cons (rep_own hown hl) (Reps.cons (.clo _ [] [] rfl (by simp)) .nil))
  clear hl
  by_cases hi : 0 ≤ ixA (fun x : Tm => decide (x.1 = 0)) l 0
  · obtain ⟨i0, q1, q2, q3⟩ := ixA_take (p := fun x => decide (x.1 = 0)) l 0 hi
    have q2 : ixA (fun x : Tm => decide (x.1 = 0)) l 0 = (i0 : Nat) := by rw [q2, Nat.zero_add]
    rw [q2] at hci
    have hadf : ∃ g, ad = some ⟨g, 0, none⟩ := by
      rcases hown.2 with ⟨h1, h2⟩ | ⟨g, cap, cur, h1, _⟩
      · omega
      · cases h1; exact ⟨g, rfl⟩
    obtain ⟨g, rfl⟩ := hadf
    have hne1 : ((i0 : Int) == -1) = false := beq_eq_false_iff_ne.2 (by omega)
    have hcap : l.length ≤ cap := by
      rcases hown.2 with ⟨h1, h2⟩ | ⟨g', cap', cur, h1, _, _, h2, _⟩
      · omega
      · cases h1; exact h2
    clear hi
    go_enter Tryz.func122, Tryz.ntmps122
    go_wp2_with (go_at_call 137; refine Calls.mono hci ?_; rintro e W1 ⟨v1, rfl, hb1, hr1⟩; obtain rfl : v1 = .int .i64 (i0 : Nat) := (by cases hr1; rfl); clear hr1)
    have hG1 : W.grownBy W1 (some g) := gb_below hb1
    have hw1 := hown.kept (gb_below (r := none) hb1) (.inr (by simp [Value.ownBlock]))
    clear hb1 hci
    go_loopg [5, 6, 7] l.length (fun gg s5 s6 _ wr => ∃ (i j : Nat) (cur : List Tm), s5 = .int .i64 i ∧ s6 = .int .i64 j ∧ i < j ∧ j ≤ l.length ∧ l.length ≤ gg + j ∧ cur.length = l.length ∧ Hid (cur.take i = (l.take j).filter (fun x => !decide (x.1 = 0))) ∧ Hid (cur.drop j = l.drop j) ∧
        wr.ownsRow w0.heap.size 45 2 (.slice (some ⟨g, 0, none⟩) l.length cap) l.length (tcs cur) ∧ W.grownBy wr (some g))
    case atStart => exact ⟨i0, i0 + 1, l, rfl, by go_num, by omega, by omega, by omega, rfl, q3.symm, rfl, hw1, hG1⟩
    case round =>
      clear hw1 hG1
      obtain ⟨i, j, cur, rfl, rfl, hij, hj, hgg, hcl, HT, HD, hwr, hgr⟩ := hrel
      have hLW : ∀ w', W.grownBy w' (some g) → Tryz.L w' := fun w' h => Tryz.hL w0 _ hL0 (hbw.grown h hbw.size (fun k hk => by cases hk; exact (hown.lt g rfl).1))
      have hgl : g < W.heap.size := (hown.lt g rfl).2
      have hgw : W.heap.size ≤ wr.heap.size := hgr.size
      by_cases hlt : j < l.length
      · have hltz : (j : Int) < (l.length : Int) := by omega
        have hx : l[j]? = some (l[j]'hlt) := List.getElem?_eq_getElem hlt
        have htk : l.take (j + 1) = l.take j ++ [l[j]'hlt] := List.take_succ_eq_append_getElem hlt
        generalize l[j]'hlt = x at hx htk
        have TK : Hid (l.take (j + 1) = l.take j ++ [x]) := htk
        have hx2 := HL.out x (List.mem_of_getElem? hx)
        have hcx : cur[j]? = some x := by
          have e1 := congrArg (fun q : List Tm => q[0]?) HD.out
          simp only [List.getElem?_drop, Nat.add_zero] at e1
          rw [e1]; exact hx
        have hci2 : cur[i]? = some (cur[i]'(by omega)) := List.getElem?_eq_getElem (by omega)
        generalize cur[i]'(by omega) = old at hci2
        obtain ⟨cA, cB⟩ := tcs_at hcx
        rw [← hwr.cellAt (j * 2) (by omega)] at cA
        rw [← hwr.cellAt (j * 2 + 1) (by omega)] at cB
        have hU : (wr.alloc (.cells #[.string ⟨(rt x.1).toArray⟩, .string ⟨(tz (x.2 : Int)).toArray⟩] 45)).heap[wr.heap.size]? = some (.cells #[.string ⟨(rt x.1).toArray⟩, .string ⟨(tz (x.2 : Int)).toArray⟩] 45 (0, 0)) := World.alloc_heap_new _ _
        have hGa : W.grownBy (wr.alloc (.cells #[.string ⟨(rt x.1).toArray⟩, .string ⟨(tz (x.2 : Int)).toArray⟩] 45)) (some g) := gb_trans hgr (World.grownBy_alloc _ _ _)
        have hwa := hwr.alloc (.cells #[.string ⟨(rt x.1).toArray⟩, .string ⟨(tz (x.2 : Int)).toArray⟩] 45)
        have hdel := (Tryz.szero x hx2.1).2 (fun _ _ => False) (wr.alloc (.cells #[.string ⟨(rt x.1).toArray⟩, .string ⟨(tz (x.2 : Int)).toArray⟩] 45)) [.agg (stc x).toArray] (fun _ _ h => h.elim) (hLW _ hGa) (Reps.cons (rep_tm _ _ x hx2.1 hx2.2) .nil)
        have HW : Hid (wr.ownsRow w0.heap.size 45 2 (.slice (some ⟨g, 0, none⟩) l.length cap) l.length (tcs cur)) := hwr
        have hgi : i * 2 + 1 < l.length * 2 := by omega
        have hgne : g ≠ wr.heap.size := by omega
        have hgne' : wr.heap.size ≠ g := by omega
        clear hwr htk hx
        cases hq : decide (x.1 = 0) with
        | false =>
          rw [hq] at hdel
          go_wp2_with (go_at_call 123; refine Calls.mono hdel ?_; rintro e W5 ⟨v5, rfl, hb5, hr5⟩; obtain rfl : v5 = .bool false := (by cases hr5; rfl); clear hr5; have hU5 := below_heap hb5 hU; obtain ⟨cu5, cu5'⟩ := cells2 hU5; have hG5 := gb_trans hGa (gb_below (r := some g) hb5); have hw5 := hwa.kept (gb_below (r := none) hb5) (.inr (by simp [Value.ownBlock])); have f5 := hw5.frozenAt (i * 2); have f5' := hw5.frozenAt (i * 2 + 1); have d5 := (hw5.cellAt (i * 2) (by omega)).trans (tcs_at hci2).1; have d5' := (hw5.cellAt (i * 2 + 1) (by omega)).trans (tcs_at hci2).2; clear hb5)
          go_roundg (l.length - (j + 1))
          case measure => omega
          case rel =>
            have st1 := hw5.stored (i * 2) (.string ⟨(rt x.1).toArray⟩)
            have st2 := st1.1.stored (i * 2 + 1) (.string ⟨(tz (x.2 : Int)).toArray⟩)
            rw [tcs_set cur i x (by omega)] at st2
            refine ⟨i + 1, j + 1, cur.set i x, by go_num, by go_num, by omega, by omega, by omega, by rw [List.length_set]; exact hcl, (show Hid _ from ?_), (show Hid _ from ?_), st2.1, gb_trans (gb_trans hG5 st1.2) st2.2⟩
            · have e1 : (cur.set i x).take (i + 1) = cur.take i ++ [x] := by
                rw [List.take_succ_eq_append_getElem (by rw [List.length_set]; omega), List.take_set_of_le (Nat.le_refl _), List.getElem_set_self]
              show _ = _
              rw [e1, HT.out, TK.out, List.filter_append, List.filter_cons_of_pos (by simp [hq]), List.filter_nil]
            · show _ = _
              rw [List.drop_set_of_lt (by omega), ← List.drop_drop, HD.out, List.drop_drop]
        | true =>
          rw [hq] at hdel
          go_wp2_with (go_at_call 123; refine Calls.mono hdel ?_; rintro e W5 ⟨v5, rfl, hb5, hr5⟩; obtain rfl : v5 = .bool true := (by cases hr5; rfl); clear hr5; have hG5 := gb_trans hGa (gb_below (r := some g) hb5); have hw5 := hwa.kept (gb_below (r := none) hb5) (.inr (by simp [Value.ownBlock])); clear hb5)
          go_roundg (l.length - (j + 1))
          case measure => omega
          case rel =>
            refine ⟨i, j + 1, cur, rfl, by go_num, by omega, by omega, by omega, hcl, (show Hid _ from ?_), (show Hid _ from ?_), hw5, hG5⟩
            · show _ = _
              rw [HT.out, TK.out, List.filter_append, List.filter_cons_of_neg (by simp [hq]), List.filter_nil, List.append_nil]
            · show _ = _
              rw [← List.drop_drop, HD.out, List.drop_drop]
      · obtain rfl : j = l.length := by omega
        have hltz : ¬ (l.length : Int) < (l.length : Int) := by omega
        obtain ⟨w2, hcl2, hw2, hg2⟩ := run_clear_row t0 v1 rfl (by simp [Value.cells, Value.oneCell']) hwr hij
        have htt := HT.out
        rw [List.take_length] at htt
        have hil : (l.filter fun x => !decide (x.1 = 0)).length = i := by rw [← htt, List.length_take]; omega
        have HIL : Hid ((l.filter fun x => !decide (x.1 = 0)).length = i) := hil
        clear hil
        have e1 : (tcs cur).take (i * 2) = tcs (l.filter fun x => !decide (x.1 = 0)) := by
          rw [← htt]
          conv => lhs; rw [← List.take_append_drop i cur, tcs_app]
          rw [List.take_left' (by rw [tcs_len, List.length_take]; omega)]
        rw [e1] at hw2
        have hne : ¬ (cap = i) := by omega
        clear hwr HT HD htt e1
        go_wp2
        go_ret
        exact ⟨_, rfl, by rw [HIL.out]; exact hw2, gb_trans hgr hg2, hbw.grown (gb_trans hgr hg2) hbw.size (fun k hk => by cases hk; exact (hown.lt g rfl).1)⟩
  · have hall := ixA_ge (p := fun x : Tm => decide (x.1 = 0)) (l := l) (k := 0) hi
    have hf : l.filter (fun x => !decide (x.1 = 0)) = l := List.filter_eq_self.2 fun x hx => by rw [hall x hx]; rfl
    have q2 : ixA (fun x : Tm => decide (x.1 = 0)) l 0 = -1 := by
      rcases ixA_small (p := fun x : Tm => decide (x.1 = 0)) (l := l) (k := 0) with h | h
      · exact h
      · exact absurd (by have := h.1; omega) hi
    rw [q2] at hci
    rw [hf]
    clear hall hf hi
    go_enter Tryz.func122, Tryz.ntmps122
    go_wp2_with (go_at_call 137; refine Calls.mono hci ?_; rintro e W1 ⟨v1, rfl, hb1, hr1⟩; obtain rfl : v1 = .int .i64 (-1) := (by cases hr1; rfl); clear hr1)
    go_ret
    exact ⟨_, by simp, hown.kept (gb_below (r := none) hb1) (by cases ad <;> simp [Value.ownBlock]), gb_below hb1, hbw.grown (gb_below (r := none) hb1) hbw.size (fun k hk => by cases hk)⟩
end Go.Proofs

/-
  SURD: slices.SortFunc of at most 12 terms. Own work.
-/
namespace Go.Proofs
open Go Go.Pi Go.RowKit Go.Shelf Go.Ar

set_option maxRecDepth 100000 in
set_option maxHeartbeats 4000000 in
theorem Tryz.sortLen (n : Nat) (h : n ≤ 12) (W : World) : Calls Tryz.prog 147 #[.int .u64 n] W fun e W' => (∃ k : Int, e = .returned (.int .i64 k)) ∧ W' = W := by
  have mixed : Tryz.prog.follows .mixedOrders = true := by kernel_rfl
  have hb := Tryz.bits_Len64 (n : Int) W (by omega) (by omega)
  have hwr : IntKind.u64.wrap (n : Int) = (n : Int) := by rw [IntKind.wrap_u64]; omega
  have t4 := Tryz.underlying185; have t5 := Tryz.underlying168; have t6 := Tryz.underlying3
  go_enter Tryz.func147, Tryz.ntmps147
  go_wp2_with (go_at_call 172; refine Calls.mono hb ?_; rintro e W1 ⟨rfl, rfl⟩)
  go_ret
  exact ⟨⟨_, rfl⟩, rfl⟩

set_option maxRecDepth 100000 in
set_option maxHeartbeats 4000000 in
theorem Tryz.spdq (w0 W : World) (v : Value) (l : List Tm) (k : Int) (hL0 : Tryz.L w0) (hbw : Below w0.heap.size w0 W) (hown : W.ownsRow w0.heap.size 45 2 v l.length (tcs l)) (hlen : l.length ≤ 12)
    (hl : ∀ y ∈ l, rd y.1 ≤ 2000 ∧ dl (y.2 : Int) ≤ 200) :
    Calls Tryz.prog 146 #[v, .int .i64 0, .int .i64 l.length, .int .i64 k, .func (.func 125) #[] #[]] W fun e W' => e = .returned (.tuple #[]) ∧
      ∃ r : List Tm, r.Perm l ∧ (r.Pairwise fun x y => x.2 ≤ y.2) ∧ W'.ownsRow w0.heap.size 45 2 v l.length (tcs r) ∧ W.grownBy W' v.ownBlock ∧ Below w0.heap.size w0 W' := by
  have mixed : Tryz.prog.follows .mixedOrders = true := by kernel_rfl
  have t0 := Tryz.underlying24
  have t3 := Tryz.underlying4; have t4 := Tryz.underlying3
  have hi := Tryz.sinsertion w0 W v l hL0 hbw hown hlen hl
  have hle : (l.length : Int) ≤ 12 := by omega
  have hwr : IntKind.i64.wrap (l.length : Int) = (l.length : Int) := by rw [IntKind.wrap_i64]; omega
  have vsl : ∃ ad cap, v = .slice ad l.length cap := by
    rcases hown.2 with ⟨h1, h2⟩ | ⟨g, cap, cur, h1, _⟩
    · exact ⟨none, 0, by rw [h1, h2]⟩
    · exact ⟨_, _, h1⟩
  obtain ⟨ad, cap, rfl⟩ := vsl
  clear hl hown
  go_enter Tryz.func146, Tryz.ntmps146
  go_wp2
  refine wp_loop_rounds 1 ?_
  rw [rounds_succ]
  go_wp2_with (go_at_call 163; refine Calls.mono hi ?_; rintro e W1 ⟨rfl, h1⟩)
  (try simp only [Exit.inBlock, Exit.then]); refine bodyPost_ret (results_none rfl _ _ _) rfl ?_
  exact ⟨rfl, h1⟩

set_option maxRecDepth 100000 in
set_option maxHeartbeats 4000000 in
theorem Tryz.ssort (w0 W : World) (v : Value) (l : List Tm) (hL0 : Tryz.L w0) (hbw : Below w0.heap.size w0 W) (hown : W.ownsRow w0.heap.size 45 2 v l.length (tcs l)) (hlen : l.length ≤ 12)
    (hl : ∀ y ∈ l, rd y.1 ≤ 2000 ∧ dl (y.2 : Int) ≤ 200) :
    Calls Tryz.prog 124 #[v, .func (.func 125) #[] #[]] W fun e W' => e = .returned (.tuple #[]) ∧
      ∃ r : List Tm, r.Perm l ∧ (r.Pairwise fun x y => x.2 ≤ y.2) ∧ W'.ownsRow w0.heap.size 45 2 v l.length (tcs r) ∧ W.grownBy W' v.ownBlock ∧ Below w0.heap.size w0 W' := by
  have mixed : Tryz.prog.follows .mixedOrders = true := by kernel_rfl
  have t0 := Tryz.underlying25; have t1 := Tryz.underlying24
  have t3 := Tryz.underlying185; have t4 := Tryz.underlying3
  have hp := fun k => Tryz.spdq w0 W v l k hL0 hbw hown hlen hl
  have hn := Tryz.sortLen l.length hlen W
  have hwr : IntKind.u64.wrap (l.length : Int) = (l.length : Int) := by rw [IntKind.wrap_u64]; omega
  have vsl : ∃ ad cap, v = .slice ad l.length cap := by
    rcases hown.2 with ⟨h1, h2⟩ | ⟨g, cap, cur, h1, _⟩
    · exact ⟨none, 0, by rw [h1, h2]⟩
    · exact ⟨_, _, h1⟩
  obtain ⟨ad, cap, rfl⟩ := vsl
  clear hl hown
  go_enter Tryz.func124, Tryz.ntmps124
  go_wp2_with (first | (go_at_call 147; refine Calls.mono hn ?_; rintro e W1 ⟨⟨k, rfl⟩, rfl⟩) | (go_at_call 146; refine Calls.mono (hp _) ?_; rintro e W2 ⟨rfl, h1⟩))
  go_end0
  exact ⟨rfl, h1⟩
end Go.Proofs

/-
  SURD: sum by hand. Own work.
-/
namespace Go.Proofs
open Go Go.Pi Go.RowKit Go.Shelf Go.Ar

/-- all terms of a list of surds, each times its factor -/
def allT (k : Nat → Rat) : Nat → List (List Tm) → List Tm
  | _, [] => []
  | i, s :: ls => mulT (k i) s ++ allT k (i + 1) ls
theorem allT_app (k : Nat → Rat) : ∀ (l m : List (List Tm)) (i : Nat), allT k i (l ++ m) = allT k i l ++ allT k (i + l.length) m
  | [], m, i => rfl
  | s :: l, m, i => by
    show mulT (k i) s ++ allT k (i + 1) (l ++ m) = mulT (k i) s ++ allT k (i + 1) l ++ _
    rw [allT_app k l m (i + 1), List.append_assoc, List.length_cons, show i + 1 + l.length = i + (l.length + 1) by omega]
theorem allT_take {k : Nat → Rat} {ls : List (List Tm)} {i : Nat} {s : List Tm} (h : ls[i]? = some s) : allT k 0 (ls.take (i + 1)) = allT k 0 (ls.take i) ++ mulT (k i) s := by
  have hi := (List.getElem?_eq_some_iff.1 h).1
  rw [List.take_add_one, h]
  show allT k 0 (ls.take i ++ [s]) = _
  rw [allT_app, List.length_take, Nat.min_eq_left (by omega), Nat.zero_add]
  show _ ++ (mulT (k i) s ++ []) = _
  rw [List.append_nil]
theorem allT_split {k : Nat → Rat} {ls : List (List Tm)} {i : Nat} {s : List Tm} (h : ls[i]? = some s) : ∃ r, allT k 0 ls = allT k 0 (ls.take i) ++ mulT (k i) s ++ r := by
  refine ⟨allT k (0 + (ls.take (i + 1)).length) (ls.drop (i + 1)), ?_⟩
  rw [← allT_take h, ← allT_app, List.take_append_drop]
theorem allT_taken {k : Nat → Rat} {ls : List (List Tm)} {i j : Nat} {s : List Tm} (h : ls[i]? = some s) (hj : j ≤ s.length) : (allT k 0 ls).take ((allT k 0 (ls.take i)).length + j) = allT k 0 (ls.take i) ++ mulT (k i) (s.take j) ∧ (allT k 0 (ls.take i)).length + j ≤ (allT k 0 ls).length := by
  obtain ⟨r, e⟩ := allT_split (k := k) h
  have hm : (mulT (k i) s).length = s.length := by simp [mulT]
  constructor
  · rw [e, List.append_assoc, List.take_append, List.take_of_length_le (by omega), Nat.add_sub_cancel_left, List.take_append_of_le_length (by omega)]
    simp [mulT, List.map_take]
  · rw [e]; simp only [List.length_append]; omega
/-- a surd among the arguments -/
theorem rep_sg {S : Nat → Nat → Prop} {W : World} {l : List Tm} {u : Value} (h : Rep S W (sg l) u) : ∃ a cap, u = .slice a l.length cap ∧ ∀ j x, l[j]? = some x → ∃ b o, a = some ⟨b, o, none⟩ ∧
    (S b (o + j * 2) ∧ W.cell? ⟨b, o + j * 2, none⟩ = some (.string ⟨(rt x.1).toArray⟩)) ∧ (S b (o + (j * 2 + 1)) ∧ W.cell? ⟨b, o + (j * 2 + 1), none⟩ = some (.string ⟨(tz (x.2 : Int)).toArray⟩)) := by
  generalize hd : sg l = d at h
  cases h with
  | sl0 a cap hc =>
    simp only [sg, D.sl.injEq] at hd
    have hl : l.length = 0 := hd.1
    obtain rfl : l = [] := List.length_eq_zero_iff.1 hl
    exact ⟨a, cap, rfl, fun j x hx => by simp at hx⟩
  | slN => simp only [sg, D.sl.injEq] at hd; have h2 : (tms l).length = l.length * 2 := rows_length tD_len l; rw [hd.2, hd.1] at h2; simp at h2
  | sl n ds b off cap vs hl h1 hn hc hr hh =>
    simp only [sg, D.sl.injEq] at hd
    obtain ⟨rfl, rfl⟩ := hd
    refine ⟨_, cap, rfl, fun j x hx => ⟨b, off, rfl, ?_, ?_⟩⟩
    · obtain ⟨r, e0, e1⟩ := tms_drop hx
      have d0 : (tms l)[j * 2]? = some (.str (rt x.1)) := by
        have := congrArg (fun q : List D => q[0]?) e0
        simpa [List.getElem?_drop] using this
      have hlt := (List.getElem?_eq_some_iff.1 d0).1
      have hv : vs[j * 2]? = some (vs[j * 2]'(by omega)) := List.getElem?_eq_getElem (by omega)
      generalize vs[j * 2]'(by omega) = v at hv
      have hrep := hh _ _ _ d0 hv
      cases hrep
      exact hr _ _ hv
    · obtain ⟨r, e0, e1⟩ := tms_drop hx
      have d0 : (tms l)[j * 2 + 1]? = some (.str (tz (x.2 : Int))) := by
        have := congrArg (fun q : List D => q[0]?) e1
        simpa [List.getElem?_drop] using this
      have hlt := (List.getElem?_eq_some_iff.1 d0).1
      have hv : vs[j * 2 + 1]? = some (vs[j * 2 + 1]'(by omega)) := List.getElem?_eq_getElem (by omega)
      generalize vs[j * 2 + 1]'(by omega) = v at hv
      have hrep := hh _ _ _ d0 hv
      cases hrep
      exact hr _ _ hv
  | _ => cases hd
theorem rep_sgs {S : Nat → Nat → Prop} {W : World} {ls : List (List Tm)} {u : Value} (h : Rep S W (.sl ls.length (ls.map sg)) u) : ∃ a cap, u = .slice a ls.length cap ∧ ∀ i s, ls[i]? = some s → ∃ b o v, a = some ⟨b, o, none⟩ ∧
    S b (o + i) ∧ W.cell? ⟨b, o + i, none⟩ = some v ∧ Rep S W (sg s) v := by
  generalize hd : D.sl ls.length (ls.map sg) = d at h
  cases h with
  | sl0 a cap hc =>
    simp only [D.sl.injEq] at hd
    have hl : ls.length = 0 := hd.1
    obtain rfl : ls = [] := List.length_eq_zero_iff.1 hl
    exact ⟨a, cap, rfl, fun j x hx => by simp at hx⟩
  | slN =>
    simp only [D.sl.injEq] at hd
    have := congrArg List.length hd.2
    rw [List.length_map, hd.1] at this; simp at this
  | sl n ds b off cap vs hl h1 hn hc hr hh =>
    simp only [D.sl.injEq] at hd
    obtain ⟨rfl, rfl⟩ := hd
    refine ⟨_, cap, rfl, fun i s hs => ?_⟩
    have hlt := (List.getElem?_eq_some_iff.1 hs).1
    rw [List.length_map] at hl
    have hv : vs[i]? = some (vs[i]'(by omega)) := List.getElem?_eq_getElem (by omega)
    generalize vs[i]'(by omega) = v at hv
    exact ⟨b, off, v, rfl, (hr _ _ hv).1, (hr _ _ hv).2, hh i (sg s) v (by rw [List.getElem?_map, hs]; rfl) hv⟩
  | _ => cases hd
theorem enters_body {P : Program} {f : FuncId} (h : hasBody P f = true) : ∀ args w, (callFunc f args).run P w = .ok (.enter f args) w := by
  unfold hasBody at h
  split at h
  · rename_i fn hf
    simp only [Bool.and_eq_true, bne_iff_ne, ne_eq] at h
    obtain ⟨c, hc⟩ := Option.isSome_iff_exists.1 h.1
    exact enters_of hf (by simpa using h.2) hc
  · cases h

set_option maxRecDepth 100000 in
set_option maxHeartbeats 8000000 in
theorem Tryz.ssum {f : Nat} (k : Nat → Rat) (ls : List (List Tm)) (R : List Tm) (hls : ls.length ≤ 100) (hs : ∀ s ∈ ls, s.length ≤ 100 ∧ ∀ x ∈ s, rd x.1 ≤ 500 ∧ 0 < x.2 ∧ dl (x.2 : Int) ≤ 200)
    (hf : hasBody Tryz.prog f = true) (hk : ∀ i, i < ls.length → rd (k i) ≤ 100 ∧ Con Tryz.prog Tryz.L f [.int .i64 i] (.str (rt (k i))))
    (hacc : ∀ n, n ≤ (allT k 0 ls).length → (((allT k 0 ls).take n).foldl addL []).length ≤ 99 ∧ ∀ y ∈ ((allT k 0 ls).take n).foldl addL [], rd y.1 ≤ 2000 ∧ 0 < y.2 ∧ dl (y.2 : Int) ≤ 200)
    (hfin : (((allT k 0 ls).foldl addL []).filter fun x => !decide (x.1 = 0)).length ≤ 12)
    (hR : ∀ r : List Tm, r.Perm (((allT k 0 ls).foldl addL []).filter fun x => !decide (x.1 = 0)) → (r.Pairwise fun x y => x.2 ≤ y.2) → r = R) :
    Con Tryz.prog Tryz.L 81 [.sl ls.length (ls.map sg), .clo f []] (sg R) := by
  refine ⟨⟨by kernel_rfl, rfl⟩, fun S W vs hS hL hreps => ?_⟩
  obtain ⟨u0, _, rfl, hu0, hreps⟩ := hreps.uncons
  obtain ⟨u1, _, rfl, hu1, hreps⟩ := hreps.uncons
  obtain rfl := List.length_eq_zero_iff.1 hreps.1.symm
  obtain rfl : u1 = .func (.func f) #[] #[] := by
    cases hu1 with
    | clo _ _ vs hl _ =>
      obtain rfl : vs = [] := List.length_eq_zero_iff.1 hl.symm
      rfl
  obtain ⟨ad0, cap0, rfl, hel⟩ := rep_sgs hu0
  clear hreps hu1 hu0
  have eg := enters_body hf
  have mixed : Tryz.prog.follows .mixedOrders = true := by kernel_rfl
  have t0 := Tryz.underlying25; have a0 := Tryz.isAgg25; have z0 := Tryz.sizeOf25; have v0 := Tryz.zeroValue25; have u0 := run_underlying Tryz.underlying25
  have t1 := Tryz.underlying45; have a1 := Tryz.isAgg45; have z1 := Tryz.sizeOf45; have v1 := Tryz.zeroValue45; have u1 := run_underlying Tryz.underlying45
  have t2 := Tryz.underlying73; have a2 := Tryz.isAgg73; have z2 := Tryz.sizeOf73; have v2 := Tryz.zeroValue73; have u2 := run_underlying Tryz.underlying73
  have t4 := Tryz.underlying3; have a4 := Tryz.isAgg3; have z4 := Tryz.sizeOf3; have v4 := Tryz.zeroValue3; have u4 := run_underlying Tryz.underlying3
  have t6 := Tryz.underlying22; have a6 := Tryz.isAgg22; have z6 := Tryz.sizeOf22; have v6 := Tryz.zeroValue22; have u6 := run_underlying Tryz.underlying22
  have t7 := Tryz.underlying35; have a7 := Tryz.isAgg35; have z7 := Tryz.sizeOf35; have v7 := Tryz.zeroValue35; have u7 := run_underlying Tryz.underlying35
  have HS : Hid (∀ s ∈ ls, s.length ≤ 100 ∧ ∀ x ∈ s, rd x.1 ≤ 500 ∧ 0 < x.2 ∧ dl (x.2 : Int) ≤ 200) := hs
  have HK : Hid (∀ i, i < ls.length → rd (k i) ≤ 100 ∧ Con Tryz.prog Tryz.L f [.int .i64 i] (.str (rt (k i)))) := hk
  have HA : Hid (∀ n, n ≤ (allT k 0 ls).length → (((allT k 0 ls).take n).foldl addL []).length ≤ 99 ∧ ∀ y ∈ ((allT k 0 ls).take n).foldl addL [], rd y.1 ≤ 2000 ∧ 0 < y.2 ∧ dl (y.2 : Int) ≤ 200) := hacc
  have HF : Hid ((((allT k 0 ls).foldl addL []).filter fun x => !decide (x.1 = 0)).length ≤ 12) := hfin
  have HR : Hid (∀ r : List Tm, r.Perm (((allT k 0 ls).foldl addL []).filter fun x => !decide (x.1 = 0)) → (r.Pairwise fun x y => x.2 ≤ y.2) → r = R) := hR
  have HE : Hid (∀ i s, ls[i]? = some s → ∃ b o v, ad0 = some ⟨b, o, none⟩ ∧ S b (o + i) ∧ W.cell? ⟨b, o + i, none⟩ = some v ∧ Rep S W (sg s) v) := hel
  have HB : Hid (∀ b j, S b j → b < W.heap.size) := hS
  clear hs hk hacc hfin hR hel hf hS
  show Calls Tryz.prog 81 #[_, _] W _
  go_enter Tryz.func81, Tryz.ntmps81
  go_wp2
  go_loopg [5, 12] ls.length (fun g1 so vi wr => ∃ (i : Nat) (l : List Tm), vi = .int .i64 i ∧ i ≤ ls.length ∧ ls.length ≤ g1 + i ∧ Hid (l = (allT k 0 (ls.take i)).foldl addL []) ∧ wr.ownsRow W.heap.size 45 2 so l.length (tcs l) ∧ Below W.heap.size W wr)
  case atStart => exact ⟨0, [], rfl, by omega, by omega, rfl, World.ownsRow_nil _ _ _ _, Below.refl _ _⟩
  case round =>
    obtain ⟨i, l, rfl, hi, hg1, HL, hwr, hbr⟩ := hrel
    by_cases hlt : i < ls.length
    · have hltz : (i : Int) < (ls.length : Int) := by omega
      have hsi : ls[i]? = some (ls[i]'hlt) := List.getElem?_eq_getElem hlt
      generalize ls[i]'hlt = s at hsi
      obtain ⟨b, o, us, rfl, hSb, hcl, hrs⟩ := HE.out i s hsi
      have hcl2 : wr.cell? ⟨b, o + i, none⟩ = some us := (hbr.cell (HB.out _ _ hSb)).trans hcl
      obtain ⟨adS, capS, rfl, het⟩ := rep_sg hrs
      have HT : Hid (∀ j x, s[j]? = some x → ∃ b o, adS = some ⟨b, o, none⟩ ∧ (S b (o + j * 2) ∧ W.cell? ⟨b, o + j * 2, none⟩ = some (.string ⟨(rt x.1).toArray⟩)) ∧ (S b (o + (j * 2 + 1)) ∧ W.cell? ⟨b, o + (j * 2 + 1), none⟩ = some (.string ⟨(tz (x.2 : Int)).toArray⟩))) := het
      have HI : Hid (ls[i]? = some s) := hsi
      have hs100 := (HS.out s (List.mem_of_getElem? hsi)).1
      clear het hsi hcl hrs
      go_wp2
      go_loopg [5, 19] s.length (fun g2 so vj wr2 => ∃ (j : Nat) (m : List Tm), vj = .int .i64 j ∧ j ≤ s.length ∧ s.length ≤ g2 + j ∧ Hid (m = (allT k 0 (ls.take i) ++ mulT (k i) (s.take j)).foldl addL []) ∧ wr2.ownsRow W.heap.size 45 2 so m.length (tcs m) ∧ Below W.heap.size W wr2)
      case atStart => exact ⟨0, l, rfl, by omega, by omega, (show Hid _ from by show l = _; rw [HL.out, List.take_zero]; simp [mulT]), hwr, hbr⟩
      case round =>
        clear hwr hbr
        obtain ⟨j, m, rfl, hj, hg2, HM, hwm, hbm⟩ := hrel
        by_cases hjs : j < s.length
        · have hjz : (j : Int) < (s.length : Int) := by omega
          have hx : s[j]? = some (s[j]'hjs) := List.getElem?_eq_getElem hjs
          generalize s[j]'hjs = x at hx
          obtain ⟨b2, o2, rfl, ⟨hS1, hc1⟩, ⟨hS2, hc2⟩⟩ := HT.out j x hx
          have cA : wr.cell? ⟨b2, o2 + j * 2, none⟩ = some (.string ⟨(rt x.1).toArray⟩) := (hbm.cell (HB.out _ _ hS1)).trans hc1
          have cB : wr.cell? ⟨b2, o2 + j * 2 + 1, none⟩ = some (.string ⟨(tz (x.2 : Int)).toArray⟩) := (hbm.cell (HB.out _ _ hS2)).trans hc2
          obtain ⟨x1, x2, x3⟩ := (HS.out s (List.mem_of_getElem? HI.out)).2 x (List.mem_of_getElem? hx)
          obtain ⟨k1, k2⟩ := HK.out i hlt
          have hmb : m.length ≤ 99 ∧ ∀ y ∈ m, rd y.1 ≤ 2000 ∧ 0 < y.2 ∧ dl (y.2 : Int) ≤ 200 := by
            obtain ⟨q1, q2⟩ := allT_taken (k := k) HI.out hj
            have := HA.out _ q2
            rw [q1, ← HM.out] at this
            exact this
          have HMB : Hid (m.length ≤ 99 ∧ ∀ y ∈ m, rd y.1 ≤ 2000 ∧ 0 < y.2 ∧ dl (y.2 : Int) ≤ 200) := hmb
          have HX : Hid (s[j]? = some x) := hx
          have hrd := rd_mul x.1 (k i)
          have hgm := hwm.lt
          have hszm := hbm.size
          clear hS1 hc1 hS2 hc2 hx hmb
          go_wp2
          have hU : (wr.alloc (.cells #[.string ⟨(rt x.1).toArray⟩, .string ⟨(tz (x.2 : Int)).toArray⟩] 45)).heap[wr.heap.size]? = some (.cells #[.string ⟨(rt x.1).toArray⟩, .string ⟨(tz (x.2 : Int)).toArray⟩] 45 (0, 0)) := World.alloc_heap_new _ _
          have hBa : Below W.heap.size W (wr.alloc (.cells #[.string ⟨(rt x.1).toArray⟩, .string ⟨(tz (x.2 : Int)).toArray⟩] 45)) := hbm.alloc hszm _
          have hwa := hwm.alloc (.cells #[.string ⟨(rt x.1).toArray⟩, .string ⟨(tz (x.2 : Int)).toArray⟩] 45)
          generalize (wr.alloc (.cells #[.string ⟨(rt x.1).toArray⟩, .string ⟨(tz (x.2 : Int)).toArray⟩] 45)) = V at *
          have hBV : Below W.heap.size W V.drew := hBa.drew
          have hUV : V.drew.heap[wr.heap.size]? = some (.cells #[.string ⟨(rt x.1).toArray⟩, .string ⟨(tz (x.2 : Int)).toArray⟩] 45 (0, 0)) := hU
          have hwV := hwa.drew
          obtain ⟨cu, cu'⟩ := cells2 hU
          obtain ⟨cv, cv'⟩ := cells2 hUV
          clear cA cB hwm hbm hBa hwa hU
          go_region_held3 (fun w' => w'.cell? ⟨wr.heap.size, 0, none⟩ = some (.string ⟨(rt x.1).toArray⟩) ∧ w'.cell? ⟨wr.heap.size, 1, none⟩ = some (.string ⟨(tz (x.2 : Int)).toArray⟩)) (go_keep)
            (first
              | (go_at_fn f; refine Calls.mono (k2.2 (fun _ _ => False) _ [.int .i64 i] (fun _ _ h => h.elim) (Tryz.hL W _ hL hBV) (Reps.cons (.int _ _) .nil)) ?_; rintro e W5 ⟨v5, rfl, hb5, hr5⟩; obtain rfl : v5 = .string ⟨(rt (k i)).toArray⟩ := (by cases hr5; rfl); clear hr5; have hU5 := below_heap hb5 hUV; have hB5 := hBV.grown (gb_below (r := none) hb5) hBV.size (fun k hk => by cases hk); have hw5 := hwV.kept (gb_below (r := none) hb5) (by generalize Value.ownBlock _ = q; cases q <;> simp); obtain ⟨c5, c5'⟩ := cells2 hU5; clear hb5)
              | (go_at_call 74; refine Calls.mono ((Tryz.rmul x.1 (k i) (by omega) (by omega)).2 (fun _ _ => False) _ [.string ⟨(rt x.1).toArray⟩, .string ⟨(rt (k i)).toArray⟩] (fun _ _ h => h.elim) (Tryz.hL W _ hL hB5) (Reps.cons (.str _ (by have := rt_len x.1; unfold maxLen; omega)) (Reps.cons (.str _ (by have := rt_len (k i); unfold maxLen; omega)) .nil))) ?_; rintro e W6 ⟨v6, rfl, hb6, hr6⟩; obtain rfl : v6 = .string ⟨(rt (x.1 * k i)).toArray⟩ := (by cases hr6; rfl); clear hr6; have hU6 := below_heap hb6 hU5; have hB6 := hB5.grown (gb_below (r := none) hb6) hB5.size (fun k hk => by cases hk); have hw6 := hw5.kept (gb_below (r := none) hb6) (by generalize Value.ownBlock _ = q; cases q <;> simp); obtain ⟨c6, c6'⟩ := cells2 hU6; clear hb6)
              | (go_at_call 121; refine Calls.mono (Tryz.sadd W _ _ m (x.1 * k i, x.2) hL hB6 hw6 (by have := HMB.out.1; omega) HMB.out.2 ⟨by show rd (x.1 * k i) ≤ 2000; omega, x2, x3⟩) ?_; rintro e W7 ⟨v7, rfl, hw7, hg7, hB7⟩; have c7 := hg7.cell c6 (fun h => by have := (hgm _ h.symm).2; exact Nat.lt_irrefl _ this); have c7' := hg7.cell c6' (fun h => by have := (hgm _ h.symm).2; exact Nat.lt_irrefl _ this); clear hg7))
          all_goals go_wp2_with fail
          all_goals go_roundg (s.length - (j + 1))
          case measure => omega
          case rel =>
            refine ⟨j + 1, addL m (x.1 * k i, x.2), by go_num, by omega, by omega, (show Hid _ from ?_), hw7, hB7⟩
            show addL m (x.1 * k i, x.2) = _
            rw [HM.out, take_snoc HX.out]
            simp [mulT, List.foldl_append]
        · obtain rfl : j = s.length := by omega
          have hjz : ¬ (s.length : Int) < (s.length : Int) := by omega
          go_wp2
          go_roundg (ls.length - (i + 1))
          case measure => omega
          case rel => exact ⟨i + 1, m, by go_num, by omega, by omega, (show Hid _ from by show m = _; rw [HM.out, List.take_length, allT_take HI.out]), hwm, hbm⟩
    · obtain rfl : i = ls.length := by omega
      have hltz : ¬ (ls.length : Int) < (ls.length : Int) := by omega
      have HL2 : Hid (l = (allT k 0 ls).foldl addL []) := by have := HL.out; rw [List.take_length] at this; exact this
      have hb := HA.out _ (Nat.le_refl _)
      rw [List.take_length, ← HL2.out] at hb
      have HBD : Hid (l.length ≤ 99 ∧ ∀ y ∈ l, rd y.1 ≤ 2000 ∧ 0 < y.2 ∧ dl (y.2 : Int) ≤ 200) := hb
      have hd := Tryz.sdeleteO W wr _ l hL hbr hwr (by omega) (fun y hy => ⟨(hb.2 y hy).1, (hb.2 y hy).2.2⟩)
      clear hb HL
      go_wp2_with (first
        | (go_at_call 122; refine Calls.mono hd ?_; rintro e W2 ⟨v2, rfl, hw2, hg2, hb2⟩; have hst := Tryz.ssort W W2 v2 _ hL hb2 hw2 (by rw [HL2.out]; exact HF.out) (fun y hy => have hm := (List.mem_filter.1 hy).1; ⟨(HBD.out.2 y hm).1, (HBD.out.2 y hm).2.2⟩); clear hw2 hb2 hg2)
        | (go_at_call 124; refine Calls.mono hst ?_; rintro e W3 ⟨rfl, r, hp, hsrt, hw3, hg3, hb3⟩))
      go_ret
      rw [HL2.out] at hp
      obtain rfl := HR.out r hp hsrt
      rw [HL2.out, ← hp.length_eq] at hw3
      refine ⟨v2, rfl, hb3, rep_ownS hw3 (fun y hy => ?_) fun g j h1 h2 => .inr ⟨h1, h2⟩⟩
      have hm := (List.mem_filter.1 (hp.mem_iff.1 hy)).1
      rw [← HL2.out] at hm
      exact ⟨(HBD.out.2 y hm).1, (HBD.out.2 y hm).2.2⟩
end Go.Proofs

/-
  SURD: the program's sum of a list is the reference's. Own work.
-/
namespace Go.Proofs
open Go Go.Pi Go.RowKit Go.Ar

theorem addL_cases (x : Tm) : ∀ (l : List Tm), ((∀ u ∈ l, ¬isq (u.2 * x.2)) ∧ addL l x = l ++ [x]) ∨ ∃ l1 u l2, l = l1 ++ u :: l2 ∧ isq (u.2 * x.2) ∧ addL l x = l1 ++ mrg u x :: l2
  | [] => .inl ⟨fun u hu => (by cases hu), rfl⟩
  | y :: l => by
    by_cases h : isq (y.2 * x.2)
    · exact .inr ⟨[], y, l, rfl, h, if_pos h⟩
    · have e : addL (y :: l) x = y :: addL l x := if_neg h
      rcases addL_cases x l with ⟨h1, h2⟩ | ⟨l1, u, l2, h1, h2, h3⟩
      · refine .inl ⟨fun u hu => ?_, by rw [e, h2]; rfl⟩
        rcases List.mem_cons.1 hu with rfl | hu
        · exact h
        · exact h1 u hu
      · exact .inr ⟨y :: l1, u, l2, by rw [h1]; rfl, h2, by rw [e, h3]; rfl⟩
/-- two alike terms as one -/
theorem mrg_spec {u t : Tm} (hu : u.2 ∈ R10) (ht : t.2 ∈ R10) (h : (bs u.2).1 = (bs t.2).1) :
    (mrg u t).2 ∈ R10 ∧ (bs (mrg u t).2).1 = (bs u.2).1 ∧ (mrg u t).1 * ((bs (mrg u t).2).2 : Rat) = u.1 * ((bs u.2).2 : Rat) + t.1 * ((bs t.2).2 : Rat) ∧ (mrg u t).2 ≤ u.2 ∧ (mrg u t).2 ≤ t.2 ∧ ((mrg u t).2 = u.2 ∨ (mrg u t).2 = t.2) := by
  unfold mrg
  split
  · rename_i hlt
    refine ⟨ht, h.symm, ?_, by show t.2 ≤ u.2; omega, Nat.le_refl _, .inr rfl⟩
    have := r10_root hu ht h
    show (t.1 + u.1 * mkRat (nrt (u.2 * t.2)) t.2) * ((bs t.2).2 : Rat) = _
    rw [← this]; grind
  · rename_i hlt
    refine ⟨hu, rfl, ?_, Nat.le_refl _, by show u.2 ≤ t.2; omega, .inl rfl⟩
    have := r10_root ht hu h.symm
    rw [Nat.mul_comm] at this
    show (u.1 + t.1 * mkRat (nrt (u.2 * t.2)) u.2) * ((bs u.2).2 : Rat) = _
    rw [← this]; grind
/-- what a sum keeps -/
structure Pre (all l : List Tm) : Prop where
  rad : inR l
  cls : l.Pairwise fun x y => (bs x.2).1 ≠ (bs y.2).1
  val : ∀ b, vlB b l = vlB b all
  low : ∀ y ∈ l, (∃ x ∈ all, x.2 = y.2) ∧ ∀ x ∈ all, (bs x.2).1 = (bs y.2).1 → y.2 ≤ x.2
theorem Pre.nil : Pre [] [] := ⟨fun x hx => (by cases hx), .nil, fun _ => rfl, fun x hx => (by cases hx)⟩
theorem Pre.step {all l : List Tm} (h : Pre all l) (hall : ∀ x ∈ all, ∃ y ∈ l, (bs y.2).1 = (bs x.2).1) {x : Tm} (hx : x.2 ∈ R10) :
    Pre (all ++ [x]) (addL l x) ∧ ∀ z ∈ all ++ [x], ∃ y ∈ addL l x, (bs y.2).1 = (bs z.2).1 := by
  rcases addL_cases x l with ⟨h1, h2⟩ | ⟨l1, u, l2, h1, h2, h3⟩
  · rw [h2]
    have hn : ∀ u ∈ l, (bs u.2).1 ≠ (bs x.2).1 := fun u hu e => h1 u hu ((r10_sq (h.rad u hu) hx).2 e)
    refine ⟨⟨fun y hy => ?_, ?_, fun b => ?_, fun y hy => ?_⟩, fun z hz => ?_⟩
    · rcases List.mem_append.1 hy with hy | hy
      · exact h.rad y hy
      · rw [List.mem_singleton.1 hy]; exact hx
    · refine List.pairwise_append.2 ⟨h.cls, List.pairwise_singleton _ _, fun a ha b hb => ?_⟩
      rw [List.mem_singleton.1 hb]; exact hn a ha
    · rw [vlB_app, vlB_app, h.val]
    · rcases List.mem_append.1 hy with hy | hy
      · obtain ⟨⟨z, hz, e⟩, h4⟩ := h.low y hy
        refine ⟨⟨z, List.mem_append_left _ hz, e⟩, fun w hw he => ?_⟩
        rcases List.mem_append.1 hw with hw | hw
        · exact h4 w hw he
        · rw [List.mem_singleton.1 hw] at he; exact absurd he.symm (hn y hy)
      · have ey := List.mem_singleton.1 hy
        subst ey
        refine ⟨⟨y, List.mem_append_right _ hy, rfl⟩, fun w hw he => ?_⟩
        rcases List.mem_append.1 hw with hw | hw
        · obtain ⟨v, hv, e⟩ := hall w hw
          exact absurd (e.trans he) (hn v hv)
        · rw [List.mem_singleton.1 hw]; exact Nat.le_refl _
    · rcases List.mem_append.1 hz with hz | hz
      · obtain ⟨y, hy, e⟩ := hall z hz
        exact ⟨y, List.mem_append_left _ hy, e⟩
      · exact ⟨x, List.mem_append_right _ (List.mem_singleton_self x), by rw [List.mem_singleton.1 hz]⟩
  · have hul : u ∈ l := by rw [h1]; simp
    have hu := h.rad u hul
    have hc := (r10_sq hu hx).1 h2
    obtain ⟨m1, m2, m3, m4, m5, m6⟩ := mrg_spec hu hx hc
    rw [h3]
    generalize mrg u x = m at *
    have hcl := h.cls
    rw [h1, List.pairwise_append] at hcl
    obtain ⟨c1, c2, c3⟩ := hcl
    obtain ⟨c4, c5⟩ := List.pairwise_cons.1 c2
    have hmem : ∀ y, y ∈ l1 ++ m :: l2 → y = m ∨ (y ∈ l ∧ (bs y.2).1 ≠ (bs u.2).1) := by
      intro y hy
      rcases List.mem_append.1 hy with hy | hy
      · exact .inr ⟨by rw [h1]; exact List.mem_append_left _ hy, c3 y hy u (List.mem_cons_self ..)⟩
      · rcases List.mem_cons.1 hy with rfl | hy
        · exact .inl rfl
        · exact .inr ⟨by rw [h1]; exact List.mem_append_right _ (List.mem_cons_of_mem _ hy), (c4 y hy).symm⟩
    refine ⟨⟨fun y hy => ?_, ?_, fun b => ?_, fun y hy => ?_⟩, fun z hz => ?_⟩
    · rcases hmem y hy with rfl | hy
      · exact m1
      · exact h.rad y hy.1
    · refine List.pairwise_append.2 ⟨c1, List.pairwise_cons.2 ⟨fun a ha => by rw [m2]; exact c4 a ha, c5⟩, fun a ha b hb => ?_⟩
      rcases List.mem_cons.1 hb with rfl | hb
      · rw [m2]; exact c3 a ha u (List.mem_cons_self ..)
      · exact c3 a ha b (List.mem_cons_of_mem _ hb)
    · rw [vlB_app, vlB_app b all, ← h.val b, h1, vlB_app]
      show _ + ((if (bs m.2).1 = b then m.1 * ((bs m.2).2 : Rat) else 0) + vlB b l2) = _ + ((if (bs u.2).1 = b then u.1 * ((bs u.2).2 : Rat) else 0) + vlB b l2) + ((if (bs x.2).1 = b then x.1 * ((bs x.2).2 : Rat) else 0) + 0)
      rw [m2, m3, ← hc]
      split <;> grind
    · rcases hmem y hy with rfl | ⟨hy, hne⟩
      · refine ⟨?_, fun w hw he => ?_⟩
        · rcases m6 with e | e
          · obtain ⟨⟨z, hz, e2⟩, _⟩ := h.low u hul
            exact ⟨z, List.mem_append_left _ hz, e2.trans e.symm⟩
          · exact ⟨x, List.mem_append_right _ (List.mem_singleton_self x), e.symm⟩
        · rcases List.mem_append.1 hw with hw | hw
          · have := (h.low u hul).2 w hw (he.trans m2); omega
          · rw [List.mem_singleton.1 hw]; exact m5
      · obtain ⟨⟨z, hz, e⟩, h4⟩ := h.low y hy
        refine ⟨⟨z, List.mem_append_left _ hz, e⟩, fun w hw he => ?_⟩
        rcases List.mem_append.1 hw with hw | hw
        · exact h4 w hw he
        · rw [List.mem_singleton.1 hw, ← hc] at he; exact absurd he.symm hne
    · have hm : m ∈ l1 ++ m :: l2 := by simp
      rcases List.mem_append.1 hz with hz | hz
      · obtain ⟨y, hy, e⟩ := hall z hz
        rw [h1] at hy
        rcases List.mem_append.1 hy with hy | hy
        · exact ⟨y, List.mem_append_left _ hy, e⟩
        · rcases List.mem_cons.1 hy with rfl | hy
          · exact ⟨m, hm, m2.trans e⟩
          · exact ⟨y, List.mem_append_right _ (List.mem_cons_of_mem _ hy), e⟩
      · rw [List.mem_singleton.1 hz]; exact ⟨m, hm, m2.trans hc⟩
theorem pre_all : ∀ (n : Nat) (all : List Tm), all.length = n → inR all → Pre all (all.foldl addL []) ∧ ∀ z ∈ all, ∃ y ∈ all.foldl addL [], (bs y.2).1 = (bs z.2).1
  | 0, all, hl, _ => by
    obtain rfl : all = [] := List.length_eq_zero_iff.1 hl
    exact ⟨Pre.nil, fun z hz => (by cases hz)⟩
  | n + 1, all, hl, h => by
    obtain ⟨l, x, rfl⟩ : ∃ l' x, all = l' ++ [x] := ⟨all.dropLast, all.getLast (by intro e; rw [e] at hl; simp at hl), (List.dropLast_concat_getLast _).symm⟩
    obtain ⟨p, q⟩ := pre_all n l (by simpa using hl) fun y hy => h y (List.mem_append_left _ hy)
    rw [List.foldl_append]
    exact p.step q (h x (List.mem_append_right _ (List.mem_singleton_self x)))
/-- the reference's radicands are the least of their classes -/
theorem leastM_low {r : Nat} (hr : r ∈ R10) : ∀ (n : Nat) (all : List Tm), all.length = n → inR all → leastM all r ≤ r ∧ (∀ x ∈ all, (bs x.2).1 = (bs r).1 → leastM all r ≤ x.2) ∧ (leastM all r = r ∨ ∃ x ∈ all, x.2 = leastM all r)
  | 0, all, hl, _ => by
    obtain rfl : all = [] := List.length_eq_zero_iff.1 hl
    exact ⟨Nat.le_refl _, fun x hx => (by cases hx), .inl rfl⟩
  | n + 1, all, hl, h => by
    obtain ⟨l, x, rfl⟩ : ∃ l' x, all = l' ++ [x] := ⟨all.dropLast, all.getLast (by intro e; rw [e] at hl; simp at hl), (List.dropLast_concat_getLast _).symm⟩
    obtain ⟨i1, i2, i3⟩ := leastM_low hr n l (by simpa using hl) fun y hy => h y (List.mem_append_left _ hy)
    have hxr := h x (List.mem_append_right _ (List.mem_singleton_self x))
    rw [leastM_snoc]
    by_cases hc : isq (x.2 * r) ∧ x.2 < leastM l r
    · rw [if_pos hc]
      refine ⟨by omega, fun y hy he => ?_, .inr ⟨x, List.mem_append_right _ (List.mem_singleton_self x), rfl⟩⟩
      rcases List.mem_append.1 hy with hy | hy
      · have := i2 y hy he; omega
      · rw [List.mem_singleton.1 hy]; exact Nat.le_refl _
    · rw [if_neg hc]
      refine ⟨i1, fun y hy he => ?_, i3.imp id fun ⟨z, hz, e⟩ => ⟨z, List.mem_append_left _ hz, e⟩⟩
      rcases List.mem_append.1 hy with hy | hy
      · exact i2 y hy he
      · rw [List.mem_singleton.1 hy] at he ⊢
        refine Nat.le_of_not_lt fun hlt => hc ⟨(r10_sq hxr hr).2 he, hlt⟩
theorem joinT_low {all : List Tm} (h : inR all) : ∀ (i : Nat), ∀ y ∈ joinT all i, (∃ x ∈ all, x.2 = y.2) ∧ ∀ x ∈ all, (bs x.2).1 = (bs y.2).1 → y.2 ≤ x.2
  | 0, y, hy => by cases hy
  | i + 1, y, hy => by
    have ih := joinT_low h i
    unfold joinT at hy
    split at hy
    · rename_i x hx
      have hxm := List.mem_of_getElem? hx
      unfold joinS at hy
      split at hy
      · exact ih y hy
      · split at hy
        · exact ih y hy
        · rcases mem_insM.1 hy with rfl | hy
          · obtain ⟨a1, a2, a3⟩ := leastM_low (h x hxm) all.length all rfl h
            obtain ⟨b1, b2⟩ := leastM_mem h (h x hxm)
            refine ⟨?_, fun z hz he => a2 z hz (he.trans b2)⟩
            rcases a3 with e | e
            · exact ⟨x, hxm, e.symm⟩
            · exact e
          · exact ih y hy
    · exact ih y hy
/-- two lists in order with the same classes, values and least radicands are one -/
theorem can_mem {all l m : List Tm} (hm : Can m) (hl : Can l) (vl : ∀ b, vlB b l = vlB b m)
    (ll : ∀ y ∈ l, (∃ x ∈ all, x.2 = y.2) ∧ ∀ x ∈ all, (bs x.2).1 = (bs y.2).1 → y.2 ≤ x.2) (lm : ∀ y ∈ m, (∃ x ∈ all, x.2 = y.2) ∧ ∀ x ∈ all, (bs x.2).1 = (bs y.2).1 → y.2 ≤ x.2) {x : Tm} (hx : x ∈ l) : x ∈ m := by
  have v := hl.val hx
  obtain ⟨_, p1, p2, _⟩ := r10_form _ (hl.rad x hx)
  have hv : vlB (bs x.2).1 m ≠ 0 := by
    rw [← vl, ← v]
    intro h0
    rcases Rat.mul_eq_zero.1 h0 with h | h
    · exact hl.ne x hx h
    · exact nat_ne p2 h
  have hex : ∃ y ∈ m, (bs y.2).1 = (bs x.2).1 := Classical.byContradiction fun hn => hv (vlB_none fun y hy e => hn ⟨y, hy, e⟩)
  obtain ⟨y, hy, e⟩ := hex
  have hr : y.2 = x.2 := by
    obtain ⟨⟨a, ha, e1⟩, h1⟩ := ll x hx
    obtain ⟨⟨b, hb, e2⟩, h2⟩ := lm y hy
    have a1 := h1 b hb (by rw [e2, e])
    have a2 := h2 a ha (by rw [e1, e])
    omega
  have v2 := hm.val hy
  rw [e, ← vl, ← v, hr] at v2
  have hf : y.1 = x.1 := by
    have hs := nat_ne p2
    generalize ((bs x.2).2 : Rat) = s at *
    grind
  have : y = x := Prod.ext hf hr
  rw [← this]; exact hy
theorem sorted_ext : ∀ {l m : List Tm}, (l.Pairwise fun x y => x.2 < y.2) → (m.Pairwise fun x y => x.2 < y.2) → (∀ x, x ∈ l ↔ x ∈ m) → l = m
  | [], m, _, _, h => by
    match m with
    | [] => rfl
    | y :: m => exact absurd ((h y).2 (List.mem_cons_self ..)) (by simp)
  | x :: l, [], _, _, h => absurd ((h x).1 (List.mem_cons_self ..)) (by simp)
  | x :: l, y :: m, hl, hm, h => by
    obtain ⟨l1, l2⟩ := List.pairwise_cons.1 hl
    obtain ⟨m1, m2⟩ := List.pairwise_cons.1 hm
    have e : x = y := by
      rcases List.mem_cons.1 ((h x).1 (List.mem_cons_self ..)) with e | hx
      · exact e
      · rcases List.mem_cons.1 ((h y).2 (List.mem_cons_self ..)) with e | hy
        · exact e.symm
        · have := l1 y hy; have := m1 x hx; omega
    subst e
    congr 1
    refine sorted_ext l2 m2 fun z => ⟨fun hz => ?_, fun hz => ?_⟩
    · rcases List.mem_cons.1 ((h z).1 (List.mem_cons_of_mem _ hz)) with rfl | hz2
      · exact absurd (l1 z hz) (Nat.lt_irrefl _)
      · exact hz2
    · rcases List.mem_cons.1 ((h z).2 (List.mem_cons_of_mem _ hz)) with rfl | hz2
      · exact absurd (m1 z hz) (Nat.lt_irrefl _)
      · exact hz2
theorem vlB_filter (b : Nat) : ∀ l : List Tm, vlB b (l.filter fun x => !decide (x.1 = 0)) = vlB b l
  | [] => rfl
  | x :: l => by
    by_cases h : x.1 = 0
    · rw [List.filter_cons_of_neg (by simp [h]), vlB_filter b l]
      show _ = (if (bs x.2).1 = b then x.1 * ((bs x.2).2 : Rat) else 0) + _
      rw [h]; split <;> grind
    · rw [List.filter_cons_of_pos (by simp [h])]
      show (if (bs x.2).1 = b then x.1 * ((bs x.2).2 : Rat) else 0) + _ = (if (bs x.2).1 = b then x.1 * ((bs x.2).2 : Rat) else 0) + _
      rw [vlB_filter b l]
theorem vlB_perm (b : Nat) {l m : List Tm} (h : l.Perm m) : vlB b l = vlB b m := by
  induction h with
  | nil => rfl
  | cons x _ ih => simp only [vlB, ih]
  | swap x y l => simp only [vlB]; grind
  | trans _ _ h1 h2 => exact h1.trans h2
/-- THE PROGRAM'S SUM, as soon as it is in order, is the reference's -/
theorem sum_is_join {all r : List Tm} (h : inR all) (hp : r.Perm ((all.foldl addL []).filter fun x => !decide (x.1 = 0))) (hs : r.Pairwise fun x y => x.2 ≤ y.2) : r = joinL all := by
  obtain ⟨p, _⟩ := pre_all all.length all rfl h
  obtain ⟨c, hv⟩ := joinL_can h
  have hmem : ∀ x, x ∈ r → x ∈ all.foldl addL [] ∧ x.1 ≠ 0 := fun x hx => by
    have := List.mem_filter.1 (hp.mem_iff.1 hx)
    exact ⟨this.1, by simpa using this.2⟩
  have hcls : r.Pairwise fun x y => (bs x.2).1 ≠ (bs y.2).1 := hp.symm.pairwise (p.cls.filter _) fun hab e => hab e.symm
  have cr : Can r := by
    refine ⟨fun x hx => (hmem x hx).2, fun x hx => p.rad x (hmem x hx).1, ?_, hcls⟩
    refine (hs.and hcls).imp fun ⟨h1, h2⟩ => ?_
    rcases Nat.lt_or_ge _ _ with h3 | h3
    · exact h3
    · exact absurd (congrArg (fun n => (bs n).1) (Nat.le_antisymm h1 h3)) h2
  have vr : ∀ b, vlB b r = vlB b (joinL all) := fun b => by rw [vlB_perm b hp, vlB_filter, p.val, hv]
  have lr : ∀ y ∈ r, _ := fun y hy => p.low y (hmem y hy).1
  have lj := joinT_low h all.length
  exact sorted_ext cr.lt c.lt fun x => ⟨can_mem c cr vr lr lj, can_mem cr c (fun b => (vr b).symm) lj lr⟩
theorem pigeon : ∀ {l m : List Nat}, l.Nodup → (∀ x ∈ l, x ∈ m) → l.length ≤ m.length
  | [], m, _, _ => Nat.zero_le _
  | x :: l, m, hn, h => by
    obtain ⟨n1, n2⟩ := List.nodup_cons.1 hn
    have hx := h x (List.mem_cons_self ..)
    have ih := pigeon (l := l) (m := m.erase x) n2 fun y hy => (List.mem_erase_of_ne (fun e => n1 (by rw [← e]; exact hy))).2 (h y (List.mem_cons_of_mem _ hy))
    have h1 := List.length_erase_of_mem hx
    have h2 := List.length_pos_of_mem hx
    rw [List.length_cons]; omega
/-- at most ten terms -/
theorem pre_len {all l : List Tm} (h : Pre all l) : l.length ≤ 10 := by
  have hn : (l.map fun x => x.2).Nodup := List.pairwise_map.2 (h.cls.imp fun hne e => hne (by rw [e]))
  have := pigeon hn (m := R10) fun r hr => by
    obtain ⟨x, hx, rfl⟩ := List.mem_map.1 hr
    exact h.rad x hx
  simpa using this
end Go.Proofs

/-
  SURD: Sum, difference, Add, Sub, Compare, Equal, the reference's Sign as contracts, for the law's surds. Own work.
-/
namespace Go.Proofs
open Go Go.Pi Go.RowKit Go.Ar

theorem mulT_one (a : List Tm) : mulT 1 a = a := by
  unfold mulT
  have : (fun x : Tm => (x.1 * 1, x.2)) = id := funext fun x => by rw [Rat.mul_one]; rfl
  rw [this, List.map_id]
/-- a term's value in twelfths -/
def tv (B : Nat) (x : Tm) : Prop := x.2 ∈ R10 ∧ ∃ M : Int, M.natAbs ≤ B ∧ x.1 * ((bs x.2).2 : Rat) * 12 = (M : Rat)
theorem tv_neg {B : Nat} {x : Tm} (h : tv B x) : tv B (x.1 * -1, x.2) := by
  obtain ⟨h0, M, h1, h2⟩ := h
  refine ⟨h0, -M, by omega, ?_⟩
  show x.1 * -1 * ((bs x.2).2 : Rat) * 12 = _
  rw [Rat.intCast_neg, ← h2]; grind
theorem tv_mulN {B : Nat} {a : List Tm} (h : ∀ x ∈ a, tv B x) : ∀ x ∈ mulT (-1) a, tv B x := by
  intro x hx
  obtain ⟨y, hy, rfl⟩ := List.mem_map.1 hx
  exact tv_neg (h y hy)
theorem Mk.tv {t : Nat} {a : List Tm} (h : Mk t a) : ∀ x ∈ a, tv (2400 * t) x := by
  intro x hx
  obtain ⟨M, h1, h2⟩ := h.val (bs x.2).1
  exact ⟨h.can.rad x hx, M, h1, by rw [h.can.val hx]; exact h2⟩
theorem vlB_tv {B : Nat} (b : Nat) : ∀ {l : List Tm}, (∀ x ∈ l, tv B x) → ∃ M : Int, M.natAbs ≤ B * l.length ∧ vlB b l * 12 = (M : Rat)
  | [], _ => ⟨0, by simp, by show (0 : Rat) * 12 = _; rw [Rat.zero_mul]; rfl⟩
  | x :: l, h => by
    obtain ⟨M, h1, h2⟩ := vlB_tv b (l := l) fun y hy => h y (List.mem_cons_of_mem _ hy)
    obtain ⟨_, N, h3, h4⟩ := h x (List.mem_cons_self ..)
    show ∃ M' : Int, _ ∧ ((if (bs x.2).1 = b then x.1 * ((bs x.2).2 : Rat) else 0) + vlB b l) * 12 = _
    rw [List.length_cons, Nat.mul_succ]
    split
    · refine ⟨N + M, by omega, ?_⟩
      rw [Rat.intCast_add, ← h2, ← h4]; grind
    · exact ⟨M, by omega, by rw [← h2]; grind⟩
theorem cls_val {l : List Tm} (hc : l.Pairwise fun x y => (bs x.2).1 ≠ (bs y.2).1) {x : Tm} (hx : x ∈ l) : x.1 * ((bs x.2).2 : Rat) = vlB (bs x.2).1 l := by
  induction l with
  | nil => cases hx
  | cons y l ih =>
    obtain ⟨h1, h2⟩ := List.pairwise_cons.1 hc
    show _ = (if _ then _ else 0) + vlB _ l
    rcases List.mem_cons.1 hx with rfl | hx
    · rw [if_pos rfl, vlB_none (fun z hz => (h1 z hz).symm), Rat.add_zero]
    · rw [if_neg (h1 x hx), Rat.zero_add, ih h2 hx]
theorem rd_val {x : Tm} (hr : x.2 ∈ R10) {M : Int} (h1 : M.natAbs ≤ 99999999) (h2 : x.1 * ((bs x.2).2 : Rat) * 12 = (M : Rat)) : rd x.1 ≤ 8 := by
  obtain ⟨_, _, s1, s2, _⟩ := r10_form _ hr
  have e : x.1 = mkRat M (12 * (bs x.2).2) := by
    rw [Rat.mkRat_eq_div, ← h2]
    have hs := nat_ne s1
    push_cast
    generalize ((bs x.2).2 : Rat) = s at *
    grind
  rw [e]
  exact rd_mk (by omega) (dd_len_le (by decide) (by show M.natAbs < 100000000; omega)) (dd_len_le (by decide) (by omega))
theorem r10_pos {r : Nat} (h : r ∈ R10) : 0 < r ∧ dl (r : Int) ≤ 200 := by
  obtain ⟨e, p1, p2, _, p4, _⟩ := r10_form r h
  exact ⟨by rw [e]; exact Nat.mul_pos (Nat.mul_pos p1 p2) p2, Nat.le_trans (dl_small (k := 4) (by decide) (by omega)) (by decide)⟩
theorem pre_rd {B : Nat} {all : List Tm} (h : ∀ x ∈ all, tv B x) (hB : B * all.length ≤ 99999999) : (all.foldl addL []).length ≤ 10 ∧ ∀ y ∈ all.foldl addL [], rd y.1 ≤ 8 ∧ 0 < y.2 ∧ dl (y.2 : Int) ≤ 200 := by
  obtain ⟨p, _⟩ := pre_all all.length all rfl fun x hx => (h x hx).1
  refine ⟨pre_len p, fun y hy => ⟨?_, r10_pos (p.rad y hy)⟩⟩
  obtain ⟨M, h1, h2⟩ := vlB_tv (bs y.2).1 h
  rw [← p.val, ← cls_val p.cls hy] at h2
  exact rd_val (p.rad y hy) (by omega) h2
/-- the program's sum of the law's surds -/
theorem Tryz.sumJ {f : Nat} (k : Nat → Rat) (ls : List (List Tm)) (hls : ls.length ≤ 10) (hs : ∀ s ∈ ls, s.length ≤ 40 ∧ ∀ x ∈ s, x.2 ∈ R10 ∧ rd x.1 ≤ 100)
    (hf : hasBody Tryz.prog f = true) (hk : ∀ i, i < ls.length → rd (k i) ≤ 100 ∧ Con Tryz.prog Tryz.L f [.int .i64 i] (.str (rt (k i)))) {B : Nat} (hv : ∀ x ∈ allT k 0 ls, tv B x) (hB : B * (allT k 0 ls).length ≤ 99999999) :
    Con Tryz.prog Tryz.L 81 [.sl ls.length (ls.map sg), .clo f []] (sg (joinL (allT k 0 ls))) := by
  refine Tryz.ssum k ls (joinL (allT k 0 ls)) (by omega) (fun s hs' => ⟨by have := (hs s hs').1; omega, fun x hx => ⟨by have := ((hs s hs').2 x hx).2; omega, r10_pos ((hs s hs').2 x hx).1⟩⟩) hf hk (fun n hn => ?_) ?_
    (fun r hp hsr => sum_is_join (fun x hx => (hv x hx).1) hp hsr)
  · have := pre_rd (B := B) (all := (allT k 0 ls).take n) (fun x hx => hv x (List.mem_of_mem_take hx)) (Nat.le_trans (Nat.mul_le_mul_left B (List.length_take_le' ..)) hB)
    exact ⟨by omega, fun y hy => ⟨by have := (this.2 y hy).1; omega, (this.2 y hy).2⟩⟩
  · have := pre_rd hv hB
    have h2 := List.length_filter_le (fun x : Tm => !decide (x.1 = 0)) ((allT k 0 ls).foldl addL [])
    omega
theorem Tryz.sfOne (i : Int) : Con Tryz.prog Tryz.L 82 [.int .i64 i] (.str (rt 1)) := by
  rw [one_txt]
  refine rule82 Tryz.hL rfl rfl rfl ?_
  (simp only [pc82, rs82]; refine ev ?_; try with_reducible exact trivial)
def kD (i : Nat) : Rat := if i = 0 then 1 else -1
theorem rt_neg1 : rt (-1) = [45, 49] := by
  refine (rt_z (-1)).trans ?_
  rw [tz_nat, if_pos (by decide), show (-1 : Int).natAbs = 1 from rfl, show dd 1 = [49] from dd_small (by decide)]
theorem Tryz.sfSign (i : Nat) (hi : i < 2) : Con Tryz.prog Tryz.L 120 [.int .i64 i] (.str (rt (kD i))) := by
  have e : rt (kD i) = if i = 0 then [49] else [45, 49] := by
    unfold kD
    split
    · exact one_txt
    · exact rt_neg1
  rw [e]
  refine rule120 Tryz.hL rfl rfl rfl ?_
  (simp only [pc120, rs120]; refine ev ?_; try with_reducible exact trivial)
  rcases show i = 0 ∨ i = 1 by omega with rfl | rfl
  · refine ⟨⟨by decide, by decide, by decide⟩, ?_⟩
    simp only [List.drop, evX, evY, evZ, forall_const, implies_true, initE, stepF, D.clean, mvF, moF, tkF, shF, ariF, ciF, catF, scF, ebF, eqF, eqOk, eqPr, enF, notF, ngF, cvF, csF, csbF, lenF, lenSF, ixF, iaF, PX.slot, iaAF, faF, ldF, D.mem, stF, bxF, mkSF, boundF, fldF, mmF2, D.plain, D.isPure, optAll, D.dull, callVF, splice, D.cells, D.one, sets, resT, D.flat, D.flat0, D.simple, Nat.reduceBNe, Nat.reduceLT, reduceIte, Nat.reduceEqDiff, Nat.reduceAdd, Nat.reduceMul, Nat.reduceSub, Nat.reduceLeDiff, Int.reduceToNat, Int.reduceLT, Int.reduceLE, Int.reduceEq, Int.reduceNeg, Int.reduceSub, Int.reduceAdd, Int.reduceMul, stG_own]
  · refine ⟨⟨by decide, by decide, by decide⟩, ?_⟩
    simp only [List.drop, evX, evY, evZ, forall_const, implies_true, initE, stepF, D.clean, mvF, moF, tkF, shF, ariF, ciF, catF, scF, ebF, eqF, eqOk, eqPr, enF, notF, ngF, cvF, csF, csbF, lenF, lenSF, ixF, iaF, PX.slot, iaAF, faF, ldF, D.mem, stF, bxF, mkSF, boundF, fldF, mmF2, D.plain, D.isPure, optAll, D.dull, callVF, splice, D.cells, D.one, sets, resT, D.flat, D.flat0, D.simple, Nat.reduceBNe, Nat.reduceLT, reduceIte, Nat.reduceEqDiff, Nat.reduceAdd, Nat.reduceMul, Nat.reduceSub, Nat.reduceLeDiff, Int.reduceToNat, Int.reduceLT, Int.reduceLE, Int.reduceEq, Int.reduceNeg, Int.reduceSub, Int.reduceAdd, Int.reduceMul, stG_own]

theorem ldC_sgs {ls : List (List Tm)} {i t : Nat} {s : List Tm} (h : ls[i]? = some s) {N : EP} {E : Env} : ldC false 1 (List.take 1 (List.drop i (ls.map sg))) t N E = N (st1 E t (sg s)) := by
  have e : List.drop i (ls.map sg) = sg s :: List.drop (i + 1) (ls.map sg) := dropc (by rw [List.getElem?_map, h]; rfl)
  rw [e]; simp [ldC, ofCells, D.one]
theorem Tryz.scheckAll (ls : List (List Tm)) (hl : ls.length ≤ 1000) (h : ∀ s ∈ ls, SOk s) : Con Tryz.prog Tryz.L 75 [.sl ls.length (ls.map sg)] (.int .i64 0) := by
  refine rule75 Tryz.hL rfl rfl rfl ?_
  (simp only [pc75, rs75]; refine ev ?_; try with_reducible exact trivial)
  refine loopF_of (fun E => ∃ k : Nat, k ≤ ls.length ∧ E = [(6, .sl ls.length (ls.map sg)), (7, .int .i64 ls.length), (8, .int .i64 k)])
    (fun E => match lk E 8 with | .int _ i => ls.length - i.toNat | _ => 0) ⟨0, Nat.zero_le _, rfl⟩ ?_
  rintro _ ⟨k, hk, rfl⟩
  (refine ev ?_; try with_reducible exact trivial)
  intro h3
  have hx : ls[k]? = some (ls[k]'(by omega)) := List.getElem?_eq_getElem (by omega)
  generalize ls[k]'(by omega) = s at hx
  refine ⟨⟨by omega, by omega, by rw [List.length_map]; omega⟩, ?_⟩
  rw [ldC_sgs hx]
  (refine ev ?_; try with_reducible exact trivial)
  refine callF_of (Tryz.check s (h s (List.mem_of_getElem? hx))) ?_
  (refine ev ?_; try with_reducible exact trivial)
  exact ⟨by omega, ⟨k + 1, by omega, by simp⟩, by omega⟩
/-- a surd of the law, as an argument -/
structure Sd (t : Nat) (a : List Tm) : Prop where
  wf : Mk t a
  le : t ≤ 18
theorem Sd.ok {t : Nat} {a : List Tm} (h : Sd t a) : SOk a := h.wf.ok (by have := h.le; omega)
theorem Sd.arg {t : Nat} {a : List Tm} (h : Sd t a) : a.length ≤ 40 ∧ ∀ x ∈ a, x.2 ∈ R10 ∧ rd x.1 ≤ 100 := by
  refine ⟨by have := h.wf.len; have := h.le; omega, fun x hx => ⟨h.wf.can.rad x hx, ?_⟩⟩
  have := h.wf.rd (by have := h.le; omega) hx
  omega
theorem Sd.tv {t : Nat} {a : List Tm} (h : Sd t a) : ∀ x ∈ a, tv 43200 x := fun x hx => by
  obtain ⟨h0, M, h1, h2⟩ := h.wf.tv x hx
  exact ⟨h0, M, by have := h.le; have := Nat.mul_le_mul_left 2400 this; omega, h2⟩
theorem Tryz.sSumR {t : Nat} (ls : List (List Tm)) (hls : ls.length ≤ 10) (hs : ∀ s ∈ ls, Sd 18 s) (hl : (allT (fun _ => 1) 0 ls).length ≤ 40) (h : Mk t (joinL (allT (fun _ => 1) 0 ls))) (ht : t ≤ 40) (hv : ∀ x ∈ allT (fun _ => 1) 0 ls, tv 43200 x) :
    Con Tryz.prog Tryz.L 39 [.sl ls.length (ls.map sg)] (.tup [sg (joinL (allT (fun _ => 1) 0 ls)), .int .i64 0]) := by
  have hk : ∀ i, i < ls.length → rd ((fun _ => 1 : Nat → Rat) i) ≤ 100 ∧ Con Tryz.prog Tryz.L 82 [.int .i64 i] (.str (rt ((fun _ => 1 : Nat → Rat) i))) := fun i _ =>
    ⟨by show rd 1 ≤ 100; rw [show (1 : Rat) = ((1 : Int) : Rat) from rfl]; exact rd_int (by decide) (by decide), Tryz.sfOne i⟩
  have hsum := Tryz.sumJ (f := 82) (fun _ => 1) ls hls (fun s hs' => (hs s hs').arg) (by kernel_rfl) hk hv (by omega)
  have hok := h.ok ht
  have hres := Tryz.result_ok _ hok.len (fun x hx => ⟨(hok.ok x hx).2.1, (hok.ok x hx).2.2.2.1⟩)
  refine rule39 Tryz.hL rfl rfl rfl ?_
  (simp only [pc39, rs39]; refine ev ?_; try with_reducible exact trivial)
  refine callF_of (Tryz.scheckAll ls (by omega) (fun s hs' => (hs s hs').ok)) ?_
  (refine ev ?_; try with_reducible exact trivial)
  refine callF_of hsum ?_
  (refine ev ?_; try with_reducible exact trivial)
  refine callF_of hres ?_
  (refine ev ?_; try with_reducible exact trivial)
  simp [resD_two, rvD, lk, D.plain, D.isPure, optAll]
theorem Tryz.sdiff {s t : Nat} (a b : List Tm) (ha : Sd s a) (hb : Sd t b) : Con Tryz.prog Tryz.L 76 [sg a, sg b] (sg (joinL (a ++ mulT (-1) b))) := by
  have e : allT kD 0 [a, b] = a ++ mulT (-1) b := by
    show mulT 1 a ++ (mulT (-1) b ++ []) = _
    rw [mulT_one, List.append_nil]
  have hv : ∀ x ∈ allT kD 0 [a, b], tv 43200 x := by
    rw [e]
    intro x hx
    rcases List.mem_append.1 hx with hx | hx
    · exact ha.tv x hx
    · exact tv_mulN hb.tv x hx
  have hsum := Tryz.sumJ (f := 120) kD [a, b] (by simp) (fun s hs' => by
    simp only [List.mem_cons, List.not_mem_nil, or_false] at hs'
    rcases hs' with rfl | rfl
    · exact ha.arg
    · exact hb.arg) (by kernel_rfl) (fun i hi => ⟨by
      unfold kD
      split
      · rw [show (1 : Rat) = ((1 : Int) : Rat) from rfl]; exact rd_int (by decide) (by decide)
      · rw [show (-1 : Rat) = ((-1 : Int) : Rat) from rfl]; exact rd_int (by decide) (by decide), Tryz.sfSign i hi⟩) hv (by
      rw [e, List.length_append]
      have := ha.arg.1; have := hb.arg.1
      have : (mulT (-1) b).length = b.length := by simp [mulT]
      omega)
  rw [e] at hsum
  refine rule76 Tryz.hL rfl rfl rfl ?_
  (simp only [pc76, rs76]; refine ev ?_; try with_reducible exact trivial)
  refine callF_of hsum ?_
  (refine ev ?_; try with_reducible exact trivial)
end Go.Proofs

/-
  SURD: Add, Sub for the law's surds. Own work.
-/
namespace Go.Proofs
open Go Go.Pi Go.RowKit Go.Ar

theorem vlB_mulT (b : Nat) (k : Rat) : ∀ l : List Tm, vlB b (mulT k l) = k * vlB b l
  | [] => by show (0 : Rat) = k * 0; grind
  | x :: l => by
    show (if (bs x.2).1 = b then x.1 * k * ((bs x.2).2 : Rat) else 0) + vlB b (mulT k l) = k * ((if (bs x.2).1 = b then x.1 * ((bs x.2).2 : Rat) else 0) + vlB b l)
    rw [vlB_mulT b k l]; split <;> grind
theorem inR_app {a b : List Tm} (ha : inR a) (hb : inR b) : inR (a ++ b) := fun x hx => (List.mem_append.1 hx).elim (ha x) (hb x)
theorem inR_mulT {k : Rat} {a : List Tm} (ha : inR a) : inR (mulT k a) := fun x hx => by
  obtain ⟨y, hy, rfl⟩ := List.mem_map.1 hx
  exact ha y hy
theorem Mk.join {s t : Nat} {a b : List Tm} (ha : Mk s a) (hb : Mk t b) : Mk (s + t) (joinL (a ++ b)) := by
  obtain ⟨c, hv⟩ := joinL_can (inR_app ha.can.rad hb.can.rad)
  refine ⟨c, ?_, fun q => ?_⟩
  · have := joinL_len (a ++ b); have := ha.len; have := hb.len
    rw [List.length_append] at *; omega
  · obtain ⟨M, h1, h2⟩ := ha.val q
    obtain ⟨N, h3, h4⟩ := hb.val q
    refine ⟨M + N, by omega, ?_⟩
    rw [hv, vlB_app, Rat.intCast_add, ← h2, ← h4]; grind
theorem Mk.diff {s t : Nat} {a b : List Tm} (ha : Mk s a) (hb : Mk t b) : Mk (s + t) (joinL (a ++ mulT (-1) b)) := by
  obtain ⟨c, hv⟩ := joinL_can (inR_app ha.can.rad (inR_mulT (k := -1) hb.can.rad))
  refine ⟨c, ?_, fun q => ?_⟩
  · have := joinL_len (a ++ mulT (-1) b); have := ha.len; have := hb.len
    have : (mulT (-1) b).length = b.length := by simp [mulT]
    rw [List.length_append] at *; omega
  · obtain ⟨M, h1, h2⟩ := ha.val q
    obtain ⟨N, h3, h4⟩ := hb.val q
    refine ⟨M - N, by omega, ?_⟩
    rw [hv, vlB_app, vlB_mulT, Rat.intCast_sub, ← h2, ← h4]; grind
theorem Mk.le {s t : Nat} {a : List Tm} (h : Mk s a) (hst : s ≤ t) : Mk t a := ⟨h.can, Nat.le_trans h.len hst, fun b => by obtain ⟨M, h1, h2⟩ := h.val b; exact ⟨M, by have := Nat.mul_le_mul_left 2400 hst; omega, h2⟩⟩
theorem Sd.up {s : Nat} {a : List Tm} (h : Sd s a) : Sd 18 a := ⟨h.wf.le h.le, Nat.le_refl _⟩
theorem mulT_len (k : Rat) (a : List Tm) : (mulT k a).length = a.length := by simp [mulT]

theorem Tryz.sAdd {s t : Nat} (a b : List Tm) (ha : Sd s a) (hb : Sd t b) : Con Tryz.prog Tryz.L 37 [sg a, sg b] (.tup [sg (joinL (a ++ b)), .int .i64 0]) := by
  have e : allT (fun _ => 1) 0 [a, b] = a ++ b := by
    show mulT 1 a ++ (mulT 1 b ++ []) = _
    rw [mulT_one, mulT_one, List.append_nil]
  have l1 := ha.wf.len; have l2 := hb.wf.len; have l3 := ha.le; have l4 := hb.le
  have h := Tryz.sSumR (t := s + t) [a, b] (by simp) (fun q hq => by
    simp only [List.mem_cons, List.not_mem_nil, or_false] at hq
    rcases hq with rfl | rfl
    · exact ha.up
    · exact hb.up) (by rw [e, List.length_append]; omega) (by rw [e]; exact ha.wf.join hb.wf) (by omega) (by
      rw [e]
      exact fun x hx => (List.mem_append.1 hx).elim (ha.tv x) (hb.tv x))
  rw [e] at h
  refine rule37 Tryz.hL rfl rfl rfl ?_
  (simp only [pc37, rs37]; refine ev ?_; try with_reducible exact trivial)
  refine callF_of h ?_
  (refine ev ?_; try with_reducible exact trivial)
  simp [resD_two, rvD, lk, D.plain, D.isPure, optAll]
theorem Tryz.sSub {s t : Nat} (a b : List Tm) (ha : Sd s a) (hb : Sd t b) : Con Tryz.prog Tryz.L 38 [sg a, sg b] (.tup [sg (joinL (a ++ mulT (-1) b)), .int .i64 0]) := by
  have hok := (ha.wf.diff hb.wf).ok (by have := ha.le; have := hb.le; omega)
  have hres := Tryz.result_ok _ hok.len (fun x hx => ⟨(hok.ok x hx).2.1, (hok.ok x hx).2.2.2.1⟩)
  have hca := Tryz.scheckAll [a, b] (by simp) (fun q hq => by
    simp only [List.mem_cons, List.not_mem_nil, or_false] at hq
    rcases hq with rfl | rfl
    · exact ha.ok
    · exact hb.ok)
  refine rule38 Tryz.hL rfl rfl rfl ?_
  (simp only [pc38, rs38]; refine ev ?_; try with_reducible exact trivial)
  refine callF_of hca ?_
  (refine ev ?_; try with_reducible exact trivial)
  refine callF_of (Tryz.sdiff a b ha hb) ?_
  (refine ev ?_; try with_reducible exact trivial)
  refine callF_of hres ?_
  (refine ev ?_; try with_reducible exact trivial)
  simp [resD_two, rvD, lk, D.plain, D.isPure, optAll]
end Go.Proofs

/-
  SURD: Equal, Same, plain. Own work.
-/
namespace Go.Proofs
open Go Go.Pi Go.RowKit Go.Ar

theorem Tryz.plainO (l : List Tm) (hl : l.length ≤ 1000) : Con Tryz.prog Tryz.L 18 [sg l] (.own true 39 l.length (tms l)) := by
  refine rule18 Tryz.hL rfl rfl rfl ?_
  (simp only [pc18, rs18]; refine ev ?_; try with_reducible exact trivial)
  refine loopF_of (fun E => ∃ k : Nat, k ≤ l.length ∧ E = [(0, sg l), (3, .own true 39 k (tms (l.take k))), (4, .int .i64 k)])
    (fun E => match lk E 4 with | .int _ i => l.length - i.toNat | _ => 0) ⟨0, Nat.zero_le _, by simp [rows]⟩ ?_
  rintro _ ⟨k, hk, rfl⟩
  (refine ev ?_; try with_reducible exact trivial)
  refine ⟨fun h3 => ?_, fun h3 => ?_⟩
  · have hx : l[k]? = some (l[k]'(by omega)) := List.getElem?_eq_getElem (by omega)
    generalize l[k]'(by omega) = x at hx
    refine ⟨⟨by omega, by omega, by rw [rows_length tD_len]; omega⟩, ?_⟩
    rw [tms_at hx]
    simp only [tD, evX, evY, evZ, forall_const, implies_true, initE, stepF, D.clean, mvF, moF, tkF, shF, ariF, ciF, catF, scF, ebF, eqF, eqOk, eqPr, enF, notF, ngF, cvF, csF, csbF, lenF, lenSF, ixF, iaF, PX.slot, iaAF, faF, ldF, D.mem, stF, bxF, mkSF, boundF, fldF, mmF2, D.plain, D.isPure, optAll, D.dull, callVF, splice, D.cells, D.one, sets, resT, D.flat, D.flat0, D.simple, Nat.reduceBNe, Nat.reduceLT, reduceIte, Nat.reduceEqDiff, Nat.reduceAdd, Nat.reduceMul, Nat.reduceSub, Nat.reduceLeDiff, Int.reduceToNat, Int.reduceLT, Int.reduceLE, Int.reduceEq, Int.reduceNeg, Int.reduceSub, Int.reduceAdd, Int.reduceMul, stG_own]
    have ht := tms_take hx
    have hkl := rows_length tD_len (l.take k)
    refine ⟨⟨by omega, by omega, by rw [rows_length tD_len]; omega⟩, ?_⟩
    rw [tms_at hx]
    simp only [tD, evX, evY, evZ, forall_const, implies_true, initE, stepF, D.clean, mvF, moF, tkF, shF, ariF, ciF, catF, scF, ebF, eqF, eqOk, eqPr, enF, notF, ngF, cvF, csF, csbF, lenF, lenSF, ixF, iaF, PX.slot, iaAF, faF, ldF, D.mem, stF, bxF, mkSF, boundF, fldF, mmF2, D.plain, D.isPure, optAll, D.dull, callVF, splice, D.cells, D.one, sets, resT, D.flat, D.flat0, D.simple, Nat.reduceBNe, Nat.reduceLT, reduceIte, Nat.reduceEqDiff, Nat.reduceAdd, Nat.reduceMul, Nat.reduceSub, Nat.reduceLeDiff, Int.reduceToNat, Int.reduceLT, Int.reduceLE, Int.reduceEq, Int.reduceNeg, Int.reduceSub, Int.reduceAdd, Int.reduceMul, stG_own]
    exact ⟨by omega, by omega, by omega, ⟨k + 1, by omega, by rw [← ht]; exact ⟨rfl, rfl⟩⟩, by omega⟩
  · have e : k = l.length := by omega
    subst e
    rw [List.take_length]
end Go.Proofs

/-
  SURD: SurdAdds. Own work.
-/
namespace Go.Proofs
open Go Go.Pi Go.RowKit Go.Ar

theorem make_sd (l : List Pa) : Sd 6 (makeL l) := ⟨makeL_mk l, by decide⟩
set_option maxRecDepth 100000 in
set_option maxHeartbeats 8000000 in
theorem Tryz.surdAdds (l m : List Pa) (hl : l.length ≤ 1048576) (h : ∀ p ∈ l, okP p) (hm : m.length ≤ 1048576) (h' : ∀ p ∈ m, okP p) : Con Tryz.prog Tryz.L 10 [.sl l.length (pas l), .sl m.length (pas m)] (.bool true) := by
  have ma := Tryz.make l hl h
  have mb := Tryz.make m hm h'
  have sa := make_sd l
  have sb := make_sd m
  generalize makeL l = a at *
  generalize makeL m = b at *
  have la := sa.wf.len
  have lb := sb.wf.len
  have bd : ∀ {q : List Tm}, Sd 6 q → ∀ x ∈ q, rd x.1 ≤ 350 ∧ 0 < x.2 ∧ dl (x.2 : Int) ≤ 200 := fun sq x hx => by
    obtain ⟨q1, q2, q3⟩ := sq.wf.tBd (by decide) x hx
    exact ⟨by have := sq.wf.rd (by decide) hx; omega, q2, q3⟩
  have r1 : rd 1 ≤ 100 := by rw [show (1 : Rat) = ((1 : Int) : Rat) from rfl]; exact rd_int (by decide) (by decide)
  have r2 : rd (-1) ≤ 100 := by rw [show (-1 : Rat) = ((-1 : Int) : Rat) from rfl]; exact rd_int (by decide) (by decide)
  have add := Tryz.sAdd a b sa sb
  have sub := Tryz.sSub a b sa sb
  have j1 := Tryz.yjoin a b 1 r1 (by omega) (sa.wf.tBd (by decide)) (bd sb)
  have j2 := Tryz.yjoin a b (-1) r2 (by omega) (sa.wf.tBd (by decide)) (bd sb)
  have j3 := Tryz.yjoin (a ++ b) a 1 r1 (by rw [List.length_append]; omega) (fun x hx => (List.mem_append.1 hx).elim (sa.wf.tBd (by decide) x) (sb.wf.tBd (by decide) x)) (bd sa)
  rw [mulT_one, one_txt] at j1 j3
  rw [rt_neg1] at j2
  have e3 : allT (fun _ => 1) 0 [a, b, a] = a ++ b ++ a := by
    show mulT 1 a ++ (mulT 1 b ++ (mulT 1 a ++ [])) = _
    rw [mulT_one, mulT_one, List.append_nil, List.append_assoc]
  have m3 : Mk 18 (joinL (a ++ b ++ a)) := by
    obtain ⟨c, hv⟩ := joinL_can (inR_app (inR_app sa.wf.can.rad sb.wf.can.rad) sa.wf.can.rad)
    refine ⟨c, ?_, fun q => ?_⟩
    · have := joinL_len (a ++ b ++ a)
      rw [List.length_append, List.length_append] at this; omega
    · obtain ⟨M, h1, h2⟩ := sa.wf.val q
      obtain ⟨N, h3, h4⟩ := sb.wf.val q
      refine ⟨M + N + M, by omega, ?_⟩
      rw [hv, vlB_app, vlB_app, Rat.intCast_add, Rat.intCast_add, ← h2, ← h4]; grind
  have sum3 := Tryz.sSumR (t := 18) [a, b, a] (by simp) (fun q hq => by
    simp only [List.mem_cons, List.not_mem_nil, or_false] at hq
    rcases hq with rfl | rfl | rfl
    · exact sa.up
    · exact sb.up
    · exact sa.up) (by rw [e3, List.length_append, List.length_append]; omega) (by rw [e3]; exact m3) (by decide) (by
      rw [e3]
      intro x hx
      rcases List.mem_append.1 hx with hx | hx
      · exact (List.mem_append.1 hx).elim (sa.tv x) (sb.tv x)
      · exact sa.tv x hx)
  rw [e3] at sum3
  have sum0 := Tryz.sSumR (t := 0) [] (by simp) (fun q hq => by cases hq) (by simp [allT]) Mk.nil (by decide) (fun x hx => by cases hx)
  rw [show joinL (allT (fun _ => 1) 0 []) = [] from rfl] at sum0
  have l1 := joinL_len (a ++ b)
  have l2 := joinL_len (a ++ mulT (-1) b)
  have l3 := joinL_len (a ++ b ++ a)
  rw [List.length_append] at l1 l2
  rw [List.length_append, List.length_append] at l3
  rw [mulT_len] at l2
  generalize joinL (a ++ b) = x at *
  generalize joinL (a ++ mulT (-1) b) = y at *
  generalize joinL (a ++ b ++ a) = z at *
  have pa := Tryz.plain a (by omega)
  have pb := Tryz.plain b (by omega)
  have po := Tryz.plainO a (by omega)
  have px := Tryz.plain x (by omega)
  have py := Tryz.plain y (by omega)
  have pz := Tryz.plain z (by omega)
  have sx := Tryz.ysame x (by omega)
  have sy := Tryz.ysame y (by omega)
  have sz := Tryz.ysame z (by omega)
  refine rule10 Tryz.hL rfl rfl rfl ?_
  (simp only [pc10, rs10]; refine ev ?_; try with_reducible exact trivial)
  refine callF_of Tryz.known ?_
  (refine ev ?_; try with_reducible exact trivial)
  refine ⟨fun h1 => ⟨fun h2 => ?_, fun h2 => ?_⟩, fun h1 => ?_⟩
  · refine callF_of Tryz.known ?_
    (refine ev ?_; try with_reducible exact trivial)
  · refine callF_of ma ?_
    (refine ev ?_; try with_reducible exact trivial)
    refine callF_of mb ?_
    (refine ev ?_; try with_reducible exact trivial)
    refine callF_of add ?_
    (refine ev ?_; try with_reducible exact trivial)
    refine callF_of sub ?_
    (refine ev ?_; try with_reducible exact trivial)
    refine callF_of sum3 ?_
    (refine ev ?_; try with_reducible exact trivial)
    refine callF_of sum0 ?_
    (refine ev ?_; try with_reducible exact trivial)
    refine callF_of pa ?_
    (refine ev ?_; try with_reducible exact trivial)
    refine callF_of pb ?_
    (refine ev ?_; try with_reducible exact trivial)
    refine callF_of j1 ?_
    (refine ev ?_; try with_reducible exact trivial)
    refine ⟨fun _ => ?_, fun h9 => absurd rfl h9⟩
    refine callF_of px ?_
    (refine ev ?_; try with_reducible exact trivial)
    refine callF_of sx ?_
    (refine ev ?_; try with_reducible exact trivial)
    refine callF_of py ?_
    (refine ev ?_; try with_reducible exact trivial)
    refine callF_of pa ?_
    (refine ev ?_; try with_reducible exact trivial)
    refine callF_of pb ?_
    (refine ev ?_; try with_reducible exact trivial)
    refine callF_of j2 ?_
    (refine ev ?_; try with_reducible exact trivial)
    refine callF_of sy ?_
    (refine ev ?_; try with_reducible exact trivial)
    refine callF_of pz ?_
    (refine ev ?_; try with_reducible exact trivial)
    refine callF_of po ?_
    (refine ev ?_; try with_reducible exact trivial)
    refine callF_of pb ?_
    (refine ev ?_; try with_reducible exact trivial)
    refine ⟨rows_length tD_len b, by omega, by omega, ?_⟩
    refine callF_of pa ?_
    (refine ev ?_; try with_reducible exact trivial)
    rw [show D.sl (a.length + b.length) (tms a ++ tms b) = sg (a ++ b) by show _ = D.sl (a ++ b).length (rows tD (a ++ b)); rw [rows_append, List.length_append]]
    refine callF_of j3 ?_
    (refine ev ?_; try with_reducible exact trivial)
    refine callF_of sz ?_
    (refine ev ?_; try with_reducible exact trivial)
  · refine callF_of Tryz.known ?_
    (refine ev ?_; try with_reducible exact trivial)
end Go.Proofs
