/-
 POLYLINE: slices.Delete of one point, in the plain walk. Own work.
-/
import Derived.Test.YtkfmblmamoofjaaGreatDoorSf
import Derived.Test.YtkfmblmamoofjaaGreatDoorEe
import Derived.Deep.RegionHeld3
import Derived.Deep.LoopGhost
import Derived.Shelf.RegionOpenPlain
set_option linter.unusedVariables false
set_option linter.unusedSimpArgs false
namespace Go.Proofs
open Go Go.Pi Go.RowKit Go.Shelf Go.Ar Go.Ge

/-- the cells of points -/
abbrev pce (l : List Pt) : List Value := cel2 (fun p : Pt => rt p.1) (fun p : Pt => rt p.2) l

set_option maxRecDepth 100000 in
set_option maxHeartbeats 4000000 in
theorem Tryz.pdelete (w0 W : World) (v : Value) (l : List Pt) (i : Nat) (hL0 : Tryz.L w0) (hbw : Below w0.heap.size w0 W) (hown : W.ownsRow w0.heap.size 36 2 v l.length (pce l)) (hlen : l.length ≤ 1000) (hi : i + 1 < l.length) :
  Calls Tryz.prog 35 #[v, .int .i64 i, .int .i64 (i + 1 : Nat)] W fun e W' => ∃ v', e = .returned v' ∧
   W'.ownsRow w0.heap.size 36 2 v' (l.eraseIdx i).length (pce (l.eraseIdx i)) ∧ W.grownBy W' v.ownBlock ∧ Below w0.heap.size w0 W' := by
 have mixed : Tryz.prog.follows .mixedOrders = true := by kernel_rfl
 have t0 := Tryz.underlying24; have a0 := Tryz.isAgg24; have z0 := Tryz.sizeOf24; have v0 := Tryz.zeroValue24; have u0 := run_underlying Tryz.underlying24
 have t1 := Tryz.underlying36; have a1 := Tryz.isAgg36; have z1 := Tryz.sizeOf36; have v1 := Tryz.zeroValue36; have u1 := run_underlying Tryz.underlying36
 have t3 := Tryz.underlying4; have a3 := Tryz.isAgg4; have z3 := Tryz.sizeOf4; have v3 := Tryz.zeroValue4; have u3 := run_underlying Tryz.underlying4
 have t4 := Tryz.underlying3; have a4 := Tryz.isAgg3; have z4 := Tryz.sizeOf3; have v4 := Tryz.zeroValue3; have u4 := run_underlying Tryz.underlying3
 have hinfo : (Tryz.prog.info? 36).map (fun i => (i.zero, i.size, i.bytes)) = some (some (.agg #[.string ⟨#[]⟩, .string ⟨#[]⟩]), 2, 32) := by kernel_rfl
 obtain ⟨i0, hi0, hz0, hz1, hz2⟩ : ∃ i0, Tryz.prog.info? 36 = some i0 ∧ i0.zero = some (.agg #[.string ⟨#[]⟩, .string ⟨#[]⟩]) ∧ i0.size = 2 ∧ i0.bytes = 32 := by
  cases hh : Tryz.prog.info? 36 with
  | none => rw [hh] at hinfo; cases hinfo
  | some i0 =>
    rw [hh] at hinfo
    simp only [Option.map_some, Option.some.injEq, Prod.mk.injEq] at hinfo
    exact ⟨i0, rfl, hinfo.1, hinfo.2.1, hinfo.2.2⟩
 obtain ⟨g, cap, rfl, hg1, hg2⟩ := hown.form (by omega)
 have hcap : l.length ≤ cap ∧ cap ≤ maxLen := by
  rcases hown.2 with ⟨h1, h2⟩ | ⟨g', cap', cur, h1, _, _, h2, h3, _⟩
  ·omega
  ·cases h1; exact ⟨h2, h3⟩
 have hcl := cel2_len (fun p : Pt => rt p.1) (fun p : Pt => rt p.2) l
 obtain ⟨m, hm⟩ : ∃ m, l.length = i + 1 + m := ⟨l.length - (i + 1), by omega⟩
 have hlt1 : ((i : Int) == ((i + 1 : Nat) : Int)) = false := beq_eq_false_iff_ne.2 (by omega)
 have hlt2 : ((i : Int) == (i : Int) + 1) = false := beq_eq_false_iff_ne.2 (by omega)
 have hne : ¬(cap = i + 1) := by omega
 have hne2 : ¬(cap = i + m) := by omega
 have hm1 : l.length - (i + 1) = m := by omega
 have hx1 : Hid (W.drew.ownsRow w0.heap.size 36 2 (.slice (some ⟨g, 0, none⟩) i cap) i ((pce l).take (i * 2))) := own_less hown.drew (by omega)
 have hx2 : Hid (((pce l).drop ((i + 1) * 2)).length = m * 2) := by
  show _ = _
  rw [List.length_drop, hcl]; omega
 have hx3 : Hid (∀ j u, ((pce l).drop ((i + 1) * 2))[j]? = some u → W.drew.cell? ((⟨g, (i + 1) * 2, none⟩ : Addr).add j) = some u) := fun j u hu => by
  rw [List.getElem?_drop] at hu
  have hlt := (List.getElem?_eq_some_iff.1 hu).1
  rw [hcl] at hlt
  rw [Addr.add_lit, hown.drew.cellAt _ hlt]; exact hu
 have hx4 : Hid (∀ u ∈ (pce l).drop ((i + 1) * 2), u.oneCell' = true) := fun u hu => cel2_one _ _ l u (List.mem_of_mem_drop hu)
 have hxx : (pce l).take (i * 2) ++ (pce l).drop ((i + 1) * 2) = pce (l.eraseIdx i) := by
  rw [cel2_take _ _ l i (by omega), cel2_drop _ _ l (i + 1) (by omega), ← cel2_app, List.eraseIdx_eq_take_drop_succ]
 have HXX : Hid ((pce l).take (i * 2) ++ (pce l).drop ((i + 1) * 2) = pce (l.eraseIdx i)) := hxx
 have hel : (l.eraseIdx i).length = i + m := by rw [List.length_eraseIdx_of_lt (by omega)]; omega
 have HEL : Hid ((l.eraseIdx i).length = i + m) := hel
 have HOWN : Hid (W.ownsRow w0.heap.size 36 2 (.slice (some ⟨g, 0, none⟩) l.length cap) l.length (pce l)) := hown
 have hb1 : ((i : Int) + (m : Int)) ≤ (l.length : Int) := by omega
 have hb2 : (0 : Int) ≤ (i : Int) + (m : Int) := by omega
 have hb3 : ((i : Int) + (m : Int)).toNat = i + m := by omega
 have hb4 : i + m ≤ l.length := by omega
 have hbc := hcap.1
 have hic : i ≤ cap := by omega
 have hi1 : ((i + 1 : Nat) : Int) ≤ (l.length : Int) := by omega
 have hi2 : (i : Int) + 1 ≤ (l.length : Int) := by omega
 have hi3 : (0 : Int) ≤ (i : Int) + 1 := by omega
 have hi4 : ((i : Int) + 1).toNat = i + 1 := by omega
 have HM : Hid (l.length = i + 1 + m) := hm
 clear hxx hel hown hcl hm hlen
 go_enter Tryz.func35, Tryz.ntmps35
 go_wp2_with fail
 go_region_law (refine step_append_fits _ rfl (.tmp 22) (.tmp 25) 24 rfl w0.heap.size 36 i0 2 Tryz.underlying24 hi0 hz1 g i cap _ (by simp [Act.eval, Act.put]) hx1.out ⟨g, (i + 1) * 2, none⟩ m (cap - (i + 1)) _ (by simp [Act.eval, Act.put, hm1, hne]) hx2.out hx3.out hx4.out (by have := HM.out; omega) ?_; intro w1 hw1 hg1')
 obtain ⟨ys, hys⟩ := own_more hw1 hb4 hbc
 obtain ⟨w2, hcl2, hw2, hg2'⟩ := clear_row2 t0 v1 rfl (by simp [Value.cells, Value.oneCell']) hys (show i + m < l.length by have := HM.out; omega)
 go_wp2
 go_ret
 have hgr : W.grownBy w2 (some g) := gr_trans (gr_trans (gr_drew (gr_self W)) hg1') hg2'
 refine ⟨.slice (some ⟨g, 0, none⟩) (i + m) cap, by simp, ?_, hgr, hbw.grown hgr hbw.size (fun k hk => by cases hk; exact hg1)⟩
 rw [HEL.out, ← HXX.out]
 rw [List.take_left' hw1.1] at hw2
 exact hw2
end Go.Proofs

/-
 POLYLINE: slices.SortFunc of at most 12 points with the comparison of Split, in the plain walk (as for the surds). Own work.
-/
namespace Go.Proofs
open Go Go.Pi Go.RowKit Go.Shelf Go.Ar Go.Ge Go.Sp

theorem gbq_trans {a b c : World} {r : Option Nat} (h : a.grownBy b r) (h2 : b.grownBy c r) : a.grownBy c r :=
 ⟨h2.os.trans h.os, h2.tape.trans h.tape, h2.output.trans h.output, Nat.le_trans h.size h2.size, fun k hk hne => (h2.block k (Nat.lt_of_lt_of_le hk h.size) hne).trans (h.block k hk hne)⟩
theorem gbq_below {a b : World} {r : Option Nat} (h : Below a.heap.size a b) : a.grownBy b r := ⟨h.os, h.tape, h.output, h.size, fun k hk _ => h.block k hk⟩
theorem pce_set : ∀ (l : List Pt) (k : Nat) (y : Pt), k < l.length → ((pce l).set (k * 2) (.string ⟨(rt y.1).toArray⟩)).set (k * 2 + 1) (.string ⟨(rt y.2).toArray⟩) = pce (l.set k y)
 | x :: l, 0, y, h => rfl
 | x :: l, k + 1, y, h => by
   have ih := pce_set l k y (by simpa using h)
   rw [show (k + 1) * 2 = k * 2 + 1 + 1 by omega, show k * 2 + 1 + 1 + 1 = (k * 2 + 1) + 1 + 1 by omega]
   exact congrArg (fun z => Value.string ⟨(rt x.1).toArray⟩ :: Value.string ⟨(rt x.2).toArray⟩ :: z) ih
set_option maxRecDepth 100000 in
set_option maxHeartbeats 4000000 in
theorem Tryz.qinsertion {ro : Pt → Pt → Prop} (ht : Tot ro) (cm : Pt → Pt → Int) (hcm : (∀ x y, cm x y < 0 → ro x y) ∧ ∀ x y, ¬cm y x < 0 → ro x y) (c1 c2 : Value) (w0 W : World) (v : Value) (l : List Pt) (hL0 : Tryz.L w0) (hbw : Below w0.heap.size w0 W) (hown : W.ownsRow w0.heap.size 36 2 v l.length (pce l)) (hlen : l.length ≤ 12)
  (hl : ∀ x ∈ l, ∀ y ∈ l, ∀ W', W.grownBy W' v.ownBlock → Calls Tryz.prog 19 #[.agg (enc2 (fun p : Pt => rt p.1) (fun p : Pt => rt p.2) x).toArray, .agg (enc2 (fun p : Pt => rt p.1) (fun p : Pt => rt p.2) y).toArray, c1, c2] W' fun e W'' => e = .returned (.int .i64 (cm x y)) ∧ Below W'.heap.size W' W'') :
  Calls Tryz.prog 69 #[v, .int .i64 0, .int .i64 l.length, .func (.func 19) #[] #[c1, c2]] W fun e W' => e = .returned (.tuple #[]) ∧
   ∃ r : List Pt, r.Perm l ∧ (r.Pairwise fun x y => ro x y) ∧ W'.ownsRow w0.heap.size 36 2 v l.length (pce r) ∧ W.grownBy W' v.ownBlock ∧ Below w0.heap.size w0 W' := by
 have mixed : Tryz.prog.follows .mixedOrders = true := by kernel_rfl
 have t0 := Tryz.underlying24; have a0 := Tryz.isAgg24; have z0 := Tryz.sizeOf24; have v0 := Tryz.zeroValue24; have u0 := run_underlying Tryz.underlying24
 have t1 := Tryz.underlying36; have a1 := Tryz.isAgg36; have z1 := Tryz.sizeOf36; have v1 := Tryz.zeroValue36; have u1 := run_underlying Tryz.underlying36
 have t3 := Tryz.underlying4; have a3 := Tryz.isAgg4; have z3 := Tryz.sizeOf4; have v3 := Tryz.zeroValue4; have u3 := run_underlying Tryz.underlying4
 have t4 := Tryz.underlying3; have a4 := Tryz.isAgg3; have z4 := Tryz.sizeOf3; have v4 := Tryz.zeroValue3; have u4 := run_underlying Tryz.underlying3
 have vsl : ∃ ad cap, v = .slice ad l.length cap := by
  rcases hown.2 with ⟨h1, h2⟩ | ⟨g, cap, cur, h1, _⟩
  ·exact ⟨none, 0, by rw [h1, h2]⟩
  ·exact ⟨_, _, h1⟩
 obtain ⟨ad, cap, rfl⟩ := vsl
 go_enter Tryz.func69, Tryz.ntmps69
 go_wp2
 go_loopg [8] (l.length) (fun g1 vi wr => ∃ (i : Nat) (c : List Pt), vi = .int .i64 i ∧ 1 ≤ i ∧ i ≤ l.length + 1 ∧ l.length ≤ g1 + i ∧ c.Perm l ∧ Hid (ordA ro c i) ∧ wr.ownsRow w0.heap.size 36 2 (.slice ad l.length cap) l.length (pce c) ∧ W.grownBy wr (Value.ownBlock (.slice ad l.length cap)))
 case atStart => exact ⟨1, l, by go_num, by omega, by omega, by omega, List.Perm.refl _, fun a b x y h1 h2 => by omega, hown, ⟨rfl, rfl, rfl, Nat.le_refl _, fun _ _ _ => rfl⟩⟩
 case round =>
  obtain ⟨i, c, rfl, hi1, hi2, hg1, hpm, HO, hwn, hgr⟩ := hrel
  by_cases hlt : i < l.length
  ·have hltz : (i : Int) < (l.length : Int) := by omega
   have hadf : ∃ g, ad = some ⟨g, 0, none⟩ := by
    rcases hown.2 with ⟨h1, h2⟩ | ⟨g, cap, cur, h1, _⟩
    ·omega
    ·cases h1; exact ⟨g, rfl⟩
   obtain ⟨g, rfl⟩ := hadf
   go_wp2
   go_loopg [9] i (fun g2 vj wr2 => ∃ (j : Nat) (d : List Pt), vj = .int .i64 j ∧ j ≤ i ∧ j ≤ g2 ∧ d.Perm l ∧ Hid (ordB ro d i j) ∧ wr2.ownsRow w0.heap.size 36 2 (.slice (some ⟨g, 0, none⟩) l.length cap) l.length (pce d) ∧ W.grownBy wr2 (some g))
   case atStart => exact ⟨i, c, rfl, Nat.le_refl _, Nat.le_refl _, hpm, ordB_of HO.out, hwn, hgr⟩
   case round =>
    clear hwn hgr hpm HO
    obtain ⟨j, d, rfl, hji, hg2, hpd, HI, hwd, hgd⟩ := hrel
    have hdl : d.length = l.length := hpd.length_eq
    by_cases hj0 : 0 < j
    ·obtain ⟨jp, rfl⟩ : ∃ jp, j = jp + 1 := ⟨j - 1, by omega⟩
     have hjz : decide ((jp : Int) + 1 > 0) = true := decide_eq_true (by omega)
     have hjz2 : (0 : Int) < (jp : Int) + 1 := by omega
     have hp : d[jp]? = some (d[jp]'(by omega)) := List.getElem?_eq_getElem (by omega)
     generalize d[jp]'(by omega) = p at hp
     have hq : d[jp + 1]? = some (d[jp + 1]'(by omega)) := List.getElem?_eq_getElem (by omega)
     generalize d[jp + 1]'(by omega) = q at hq
     have hpb := hpd.mem_iff.1 (List.mem_of_getElem? hp)
     have hqb := hpd.mem_iff.1 (List.mem_of_getElem? hq)
     have hLW : ∀ w', W.grownBy w' (some g) → Tryz.L w' := fun w' h => Tryz.hL w0 _ hL0 (hbw.grown h hbw.size (fun k hk => by cases hk; exact (hown.lt g rfl).1))
     obtain ⟨cp, cp'⟩ := cel2_at (fun p : Pt => rt p.1) (fun p : Pt => rt p.2) hp
     obtain ⟨cq, cq'⟩ := cel2_at (fun p : Pt => rt p.1) (fun p : Pt => rt p.2) hq
     rw [← hwd.cellAt (jp * 2) (by omega)] at cp
     rw [← hwd.cellAt (jp * 2 + 1) (by omega)] at cp'
     rw [← hwd.cellAt ((jp + 1) * 2) (by omega)] at cq
     rw [← hwd.cellAt ((jp + 1) * 2 + 1) (by omega)] at cq'
     have hwp : IntKind.i64.wrap (jp : Int) = (jp : Int) := by rw [IntKind.wrap_i64]; omega
     have jz : (jp : Int) + 1 < (l.length : Int) := by omega
     have jz1 : (jp : Int) < (l.length : Int) := by omega
     have p0 : (0 : Int) ≤ (jp : Int) + 1 := by omega
     have e0 : ((jp : Int) + 1).toNat = jp + 1 := by omega
     have hGd : W.grownBy wr.drew (some g) := ⟨hgd.os, hgd.tape, hgd.output, hgd.size, hgd.block⟩
     have HW : Hid (wr.drew.ownsRow w0.heap.size 36 2 (.slice (some ⟨g, 0, none⟩) l.length cap) l.length (pce d) ∧ W.grownBy wr.drew (some g)) := ⟨hwd.drew, hGd⟩
     have HX : Hid (d.Perm l ∧ d[jp]? = some p ∧ d[jp + 1]? = some q) := ⟨hpd, hp, hq⟩
     have hcm := hl q hqb p hpb wr.drew hGd
     clear hwd hgd hGd hpd hp hq
     by_cases hc : cm q p < 0
     ·have ec : decide (cm q p < 0) = true := by simp; omega
      go_wp2_with fail
      go_region_held3 (fun w' => w'.cell? ⟨g, jp * 2, none⟩ = some (.string ⟨(rt p.1).toArray⟩) ∧ w'.cell? ⟨g, jp * 2 + 1, none⟩ = some (.string ⟨(rt p.2).toArray⟩) ∧ w'.cell? ⟨g, (jp + 1) * 2, none⟩ = some (.string ⟨(rt q.1).toArray⟩) ∧ w'.cell? ⟨g, (jp + 1) * 2 + 1, none⟩ = some (.string ⟨(rt q.2).toArray⟩)) (go_keep)
       (first
        | (go_at_call 19; refine Calls.mono hcm ?_; rintro e W5 ⟨rfl, hb5⟩; have hw5 := HW.out.1.kept (gbq_below (r := none) hb5) (.inr (by simp [Value.ownBlock])); have d1 := (hw5.cellAt (jp * 2) (by omega)).trans (cel2_at (fun p : Pt => rt p.1) (fun p : Pt => rt p.2) HX.out.2.1).1; have d2 := (hw5.cellAt (jp * 2 + 1) (by omega)).trans (cel2_at (fun p : Pt => rt p.1) (fun p : Pt => rt p.2) HX.out.2.1).2; have d3 := (hw5.cellAt ((jp + 1) * 2) (by omega)).trans (cel2_at (fun p : Pt => rt p.1) (fun p : Pt => rt p.2) HX.out.2.2).1; have d4 := (hw5.cellAt ((jp + 1) * 2 + 1) (by omega)).trans (cel2_at (fun p : Pt => rt p.1) (fun p : Pt => rt p.2) HX.out.2.2).2; have hG5 := gbq_trans HW.out.2 (gbq_below (r := some g) hb5); clear hb5))
      all_goals clear hcm cp cp' cq cq'
      all_goals go_wp2_with fail
      have f1 := hw5.frozenAt (jp * 2)
      have f2 := hw5.frozenAt (jp * 2 + 1)
      have f3 := hw5.frozenAt ((jp + 1) * 2)
      have f4 := hw5.frozenAt ((jp + 1) * 2 + 1)
      have n1 : (jp + 1) * 2 ≠ jp * 2 := by omega
      have n2 : (jp + 1) * 2 + 1 ≠ jp * 2 := by omega
      have n3 : (jp + 1) * 2 ≠ jp * 2 + 1 := by omega
      have n4 : (jp + 1) * 2 + 1 ≠ jp * 2 + 1 := by omega
      go_big_region_o
      all_goals go_wp2
      go_roundg jp
      case measure => omega
      case rel =>
       have st1 := hw5.drew.stored ((jp + 1) * 2) (.string ⟨(rt p.1).toArray⟩)
       have st2 := st1.1.stored ((jp + 1) * 2 + 1) (.string ⟨(rt p.2).toArray⟩)
       have g2 := gbq_trans st1.2 st2.2
       rw [pce_set d (jp + 1) p (by omega)] at st2
       have st3 := st2.1.stored (jp * 2) (.string ⟨(rt q.1).toArray⟩)
       have st4 := st3.1.stored (jp * 2 + 1) (.string ⟨(rt q.2).toArray⟩)
       have g4 := gbq_trans g2 (gbq_trans st3.2 st4.2)
       rw [pce_set (d.set (jp + 1) p) jp q (by rw [List.length_set]; omega)] at st4
       refine ⟨jp, (d.set (jp + 1) p).set jp q, by first | rfl | go_num | (congr 1; omega), by omega, Nat.le_refl _, (swap_perm HX.out.2.1 HX.out.2.2).trans HX.out.1, (show Hid _ from ordB_swap HI.out hji HX.out.2.1 HX.out.2.2 (hcm.1 _ _ hc)), st4.1, gbq_trans hG5 ?_⟩
       exact ⟨g4.os, g4.tape, g4.output, g4.size, g4.block⟩
     ·have ec : decide (cm q p < 0) = false := by simp; omega
      go_wp2_with fail
      go_region_held3 (fun w' => w'.cell? ⟨g, jp * 2, none⟩ = some (.string ⟨(rt p.1).toArray⟩) ∧ w'.cell? ⟨g, jp * 2 + 1, none⟩ = some (.string ⟨(rt p.2).toArray⟩) ∧ w'.cell? ⟨g, (jp + 1) * 2, none⟩ = some (.string ⟨(rt q.1).toArray⟩) ∧ w'.cell? ⟨g, (jp + 1) * 2 + 1, none⟩ = some (.string ⟨(rt q.2).toArray⟩)) (go_keep)
       (first
        | (go_at_call 19; refine Calls.mono hcm ?_; rintro e W5 ⟨rfl, hb5⟩; have hw5 := HW.out.1.kept (gbq_below (r := none) hb5) (.inr (by simp [Value.ownBlock])); have d1 := (hw5.cellAt (jp * 2) (by omega)).trans (cel2_at (fun p : Pt => rt p.1) (fun p : Pt => rt p.2) HX.out.2.1).1; have d2 := (hw5.cellAt (jp * 2 + 1) (by omega)).trans (cel2_at (fun p : Pt => rt p.1) (fun p : Pt => rt p.2) HX.out.2.1).2; have d3 := (hw5.cellAt ((jp + 1) * 2) (by omega)).trans (cel2_at (fun p : Pt => rt p.1) (fun p : Pt => rt p.2) HX.out.2.2).1; have d4 := (hw5.cellAt ((jp + 1) * 2 + 1) (by omega)).trans (cel2_at (fun p : Pt => rt p.1) (fun p : Pt => rt p.2) HX.out.2.2).2; have hG5 := gbq_trans HW.out.2 (gbq_below (r := some g) hb5); clear hb5))
      all_goals clear hcm cp cp' cq cq'
      all_goals go_wp2_with fail
      all_goals go_roundg (l.length - (i + 1))
      case measure => omega
      case rel => exact ⟨i + 1, d, by go_num, by omega, by omega, by omega, HX.out.1, (show Hid _ from ordA_stop ht HI.out HX.out.2.1 HX.out.2.2 (hcm.2 _ _ hc)), hw5, hG5⟩
    ·obtain rfl : j = 0 := by omega
     have hjz : decide ((0 : Int) > 0) = false := by decide
     have hgd' : W.grownBy wr.drew (some g) := ⟨hgd.os, hgd.tape, hgd.output, hgd.size, hgd.block⟩
     have HW : Hid (wr.drew.ownsRow w0.heap.size 36 2 (.slice (some ⟨g, 0, none⟩) l.length cap) l.length (pce d) ∧ W.grownBy wr.drew (some g) ∧ d.Perm l) := ⟨hwd.drew, hgd', hpd⟩
     clear hwd hgd hgd' hpd
     go_wp2_with fail
     go_big_region_o
     all_goals go_wp2
     go_roundg (l.length - (i + 1))
     case measure => omega
     case rel => exact ⟨i + 1, d, by go_num, by omega, by omega, by omega, HW.out.2.2, (show Hid _ from ordA_zero HI.out), HW.out.1, HW.out.2.1⟩
  ·have hltz : ¬ (i : Int) < (l.length : Int) := by omega
   have hso : c.Pairwise fun x y => ro x y := ordA_sorted fun a b x y h1 h2 => HO.out a b x y h1 (by have := hpm.length_eq; omega)
   clear HO
   go_wp2
   go_end0
   exact ⟨rfl, c, hpm, hso, hwn, hgr, hbw.grown hgr hbw.size (fun k hk => (hown.lt k hk).1)⟩
set_option maxRecDepth 100000 in
set_option maxHeartbeats 4000000 in
theorem Tryz.qsortLen (n : Nat) (h : n ≤ 12) (W : World) : Calls Tryz.prog 46 #[.int .u64 n] W fun e W' => (∃ k : Int, e = .returned (.int .i64 k)) ∧ W' = W := by
 have mixed : Tryz.prog.follows .mixedOrders = true := by kernel_rfl
 have hb := Tryz.bits_Len64 (n : Int) W (by omega) (by omega)
 have hwr : IntKind.u64.wrap (n : Int) = (n : Int) := by rw [IntKind.wrap_u64]; omega
 have t4 := Tryz.underlying77; have t5 := Tryz.underlying107; have t6 := Tryz.underlying3
 go_enter Tryz.func46, Tryz.ntmps46
 go_wp2_with (go_at_call 78; refine Calls.mono hb ?_; rintro e W1 ⟨rfl, rfl⟩)
 go_ret
 exact ⟨⟨_, rfl⟩, rfl⟩

set_option maxRecDepth 100000 in
set_option maxHeartbeats 4000000 in
theorem Tryz.qpdq {ro : Pt → Pt → Prop} (ht : Tot ro) (cm : Pt → Pt → Int) (hcm : (∀ x y, cm x y < 0 → ro x y) ∧ ∀ x y, ¬cm y x < 0 → ro x y) (c1 c2 : Value) (w0 W : World) (v : Value) (l : List Pt) (k : Int) (hL0 : Tryz.L w0) (hbw : Below w0.heap.size w0 W) (hown : W.ownsRow w0.heap.size 36 2 v l.length (pce l)) (hlen : l.length ≤ 12)
  (hl : ∀ x ∈ l, ∀ y ∈ l, ∀ W', W.grownBy W' v.ownBlock → Calls Tryz.prog 19 #[.agg (enc2 (fun p : Pt => rt p.1) (fun p : Pt => rt p.2) x).toArray, .agg (enc2 (fun p : Pt => rt p.1) (fun p : Pt => rt p.2) y).toArray, c1, c2] W' fun e W'' => e = .returned (.int .i64 (cm x y)) ∧ Below W'.heap.size W' W'') :
  Calls Tryz.prog 45 #[v, .int .i64 0, .int .i64 l.length, .int .i64 k, .func (.func 19) #[] #[c1, c2]] W fun e W' => e = .returned (.tuple #[]) ∧
   ∃ r : List Pt, r.Perm l ∧ (r.Pairwise fun x y => ro x y) ∧ W'.ownsRow w0.heap.size 36 2 v l.length (pce r) ∧ W.grownBy W' v.ownBlock ∧ Below w0.heap.size w0 W' := by
 have mixed : Tryz.prog.follows .mixedOrders = true := by kernel_rfl
 have t0 := Tryz.underlying24
 have t3 := Tryz.underlying4; have t4 := Tryz.underlying3
 have hi := Tryz.qinsertion ht cm hcm c1 c2 w0 W v l hL0 hbw hown hlen hl
 have hle : (l.length : Int) ≤ 12 := by omega
 have hwr : IntKind.i64.wrap (l.length : Int) = (l.length : Int) := by rw [IntKind.wrap_i64]; omega
 have vsl : ∃ ad cap, v = .slice ad l.length cap := by
  rcases hown.2 with ⟨h1, h2⟩ | ⟨g, cap, cur, h1, _⟩
  ·exact ⟨none, 0, by rw [h1, h2]⟩
  ·exact ⟨_, _, h1⟩
 obtain ⟨ad, cap, rfl⟩ := vsl
 clear hl hown
 go_enter Tryz.func45, Tryz.ntmps45
 go_wp2
 refine wp_loop_rounds 1 ?_
 rw [rounds_succ]
 go_wp2_with (go_at_call 69; refine Calls.mono hi ?_; rintro e W1 ⟨rfl, h1⟩)
 (try simp only [Exit.inBlock, Exit.then]); refine bodyPost_ret (results_none rfl _ _ _) rfl ?_
 exact ⟨rfl, h1⟩

set_option maxRecDepth 100000 in
set_option maxHeartbeats 4000000 in
theorem Tryz.qsort {ro : Pt → Pt → Prop} (ht : Tot ro) (cm : Pt → Pt → Int) (hcm : (∀ x y, cm x y < 0 → ro x y) ∧ ∀ x y, ¬cm y x < 0 → ro x y) (c1 c2 : Value) (w0 W : World) (v : Value) (l : List Pt) (hL0 : Tryz.L w0) (hbw : Below w0.heap.size w0 W) (hown : W.ownsRow w0.heap.size 36 2 v l.length (pce l)) (hlen : l.length ≤ 12)
  (hl : ∀ x ∈ l, ∀ y ∈ l, ∀ W', W.grownBy W' v.ownBlock → Calls Tryz.prog 19 #[.agg (enc2 (fun p : Pt => rt p.1) (fun p : Pt => rt p.2) x).toArray, .agg (enc2 (fun p : Pt => rt p.1) (fun p : Pt => rt p.2) y).toArray, c1, c2] W' fun e W'' => e = .returned (.int .i64 (cm x y)) ∧ Below W'.heap.size W' W'') :
  Calls Tryz.prog 18 #[v, .func (.func 19) #[] #[c1, c2]] W fun e W' => e = .returned (.tuple #[]) ∧
   ∃ r : List Pt, r.Perm l ∧ (r.Pairwise fun x y => ro x y) ∧ W'.ownsRow w0.heap.size 36 2 v l.length (pce r) ∧ W.grownBy W' v.ownBlock ∧ Below w0.heap.size w0 W' := by
 have mixed : Tryz.prog.follows .mixedOrders = true := by kernel_rfl
 have t0 := Tryz.underlying24; have t1 := Tryz.underlying24
 have t3 := Tryz.underlying77; have t4 := Tryz.underlying3
 have hp := fun k => Tryz.qpdq ht cm hcm c1 c2 w0 W v l k hL0 hbw hown hlen hl
 have hn := Tryz.qsortLen l.length hlen W
 have hwr : IntKind.u64.wrap (l.length : Int) = (l.length : Int) := by rw [IntKind.wrap_u64]; omega
 have vsl : ∃ ad cap, v = .slice ad l.length cap := by
  rcases hown.2 with ⟨h1, h2⟩ | ⟨g, cap, cur, h1, _⟩
  ·exact ⟨none, 0, by rw [h1, h2]⟩
  ·exact ⟨_, _, h1⟩
 obtain ⟨ad, cap, rfl⟩ := vsl
 clear hl hown
 go_enter Tryz.func18, Tryz.ntmps18
 go_wp2_with (first | (go_at_call 46; refine Calls.mono hn ?_; rintro e W1 ⟨⟨k, rfl⟩, rfl⟩) | (go_at_call 45; refine Calls.mono (hp _) ?_; rintro e W2 ⟨rfl, h1⟩))
 go_end0
 exact ⟨rfl, h1⟩
end Go.Proofs
