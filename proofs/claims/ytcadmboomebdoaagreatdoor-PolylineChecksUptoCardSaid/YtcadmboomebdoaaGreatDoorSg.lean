/-
  POLYLINE: slices.Delete of one point, in the plain walk. Own work.
-/
import Derived.Test.YtcadmboomebdoaaGreatDoorSf
import Derived.Test.YtcadmboomebdoaaGreatDoorEg
import Derived.Deep.RegionHeld3
import Derived.Deep.LoopGhost
import Derived.Shelf.RegionOpenPlain
import Derived.Test.YtcadmboomebdoaaGreatDoorPj
import Derived.Test.YtcadmboomebdoaaGreatDoorEc
namespace Go.Proofs
open Go Go.Pi Go.RowKit Go.Shelf Go.Ar Go.Ge

/-- the cells of points -/
abbrev pce (l : List Pt) : List Value := cel2 (fun p : Pt => rt p.1) (fun p : Pt => rt p.2) l

set_option maxRecDepth 100000 in
set_option maxHeartbeats 4000000 in
theorem Tryz.pdelete (w0 W : World) (v : Value) (l : List Pt) (i : Nat) (hL0 : Tryz.L w0) (hbw : Below w0.heap.size w0 W) (hown : W.ownsRow w0.heap.size 35 2 v l.length (pce l)) (hlen : l.length ≤ 1000) (hi : i + 1 < l.length) :
    Calls Tryz.prog 53 #[v, .int .i64 i, .int .i64 (i + 1 : Nat)] W fun e W' => ∃ v', e = .returned v' ∧
      W'.ownsRow w0.heap.size 35 2 v' (l.eraseIdx i).length (pce (l.eraseIdx i)) ∧ W.grownBy W' v.ownBlock ∧ Below w0.heap.size w0 W' := by
  have mixed : Tryz.prog.follows .mixedOrders = true := by kernel_rfl
  have t0 := Tryz.underlying24; have a0 := Tryz.isAgg24; have z0 := Tryz.sizeOf24; have v0 := Tryz.zeroValue24; have u0 := run_underlying Tryz.underlying24
  have t1 := Tryz.underlying35; have a1 := Tryz.isAgg35; have z1 := Tryz.sizeOf35; have v1 := Tryz.zeroValue35; have u1 := run_underlying Tryz.underlying35
  have t3 := Tryz.underlying4; have a3 := Tryz.isAgg4; have z3 := Tryz.sizeOf4; have v3 := Tryz.zeroValue4; have u3 := run_underlying Tryz.underlying4
  have t4 := Tryz.underlying3; have a4 := Tryz.isAgg3; have z4 := Tryz.sizeOf3; have v4 := Tryz.zeroValue3; have u4 := run_underlying Tryz.underlying3
  have hinfo : (Tryz.prog.info? 35).map (fun i => (i.zero, i.size, i.bytes)) = some (some (.agg #[.string ⟨#[]⟩, .string ⟨#[]⟩]), 2, 32) := by kernel_rfl
  obtain ⟨i0, hi0, hz0, hz1, hz2⟩ : ∃ i0, Tryz.prog.info? 35 = some i0 ∧ i0.zero = some (.agg #[.string ⟨#[]⟩, .string ⟨#[]⟩]) ∧ i0.size = 2 ∧ i0.bytes = 32 := by
    cases hh : Tryz.prog.info? 35 with
    | none => rw [hh] at hinfo; cases hinfo
    | some i0 =>
      rw [hh] at hinfo
      simp only [Option.map_some, Option.some.injEq, Prod.mk.injEq] at hinfo
      exact ⟨i0, rfl, hinfo.1, hinfo.2.1, hinfo.2.2⟩
  obtain ⟨g, cap, rfl, hg1, hg2⟩ := hown.form (by omega)
  have hcap : l.length ≤ cap ∧ cap ≤ maxLen := by
    rcases hown.2 with ⟨h1, h2⟩ | ⟨g', cap', cur, h1, _, _, h2, h3, _⟩
    · omega
    · cases h1; exact ⟨h2, h3⟩
  have hcl := cel2_len (fun p : Pt => rt p.1) (fun p : Pt => rt p.2) l
  obtain ⟨m, hm⟩ : ∃ m, l.length = i + 1 + m := ⟨l.length - (i + 1), by omega⟩
  have hlt1 : ((i : Int) == ((i + 1 : Nat) : Int)) = false := beq_eq_false_iff_ne.2 (by omega)
  have hlt2 : ((i : Int) == (i : Int) + 1) = false := beq_eq_false_iff_ne.2 (by omega)
  have hne : ¬(cap = i + 1) := by omega
  have hne2 : ¬(cap = i + m) := by omega
  have hm1 : l.length - (i + 1) = m := by omega
  have hx1 : Hid (W.drew.ownsRow w0.heap.size 35 2 (.slice (some ⟨g, 0, none⟩) i cap) i ((pce l).take (i * 2))) := own_less hown.drew (by omega)
  have hx2 : Hid (((pce l).drop ((i + 1) * 2)).length = m * 2) := by
    show _ = _
    rw [List.length_drop, hcl]; omega
  have hx3 : Hid (∀ j u, ((pce l).drop ((i + 1) * 2))[j]? = some u → W.drew.cell? ((⟨g, (i + 1) * 2, none⟩ : Addr).add j) = some u) := fun j u hu => by
    rw [List.getElem?_drop] at hu
    have hlt := (List.getElem?_eq_some_iff.1 hu).1
    rw [hcl] at hlt
    rw [Addr.add_lit, hown.drew.cellAt _ hlt]; exact hu
  have hx4 : Hid (∀ u ∈ (pce l).drop ((i + 1) * 2), u.oneCell' = true) := fun u hu => cel2_one _ _ l u (List.mem_of_mem_drop hu)
  have hxx : (pce l).take (i * 2) ++ (pce l).drop ((i + 1) * 2) = pce (l.eraseIdx i) := by
    rw [cel2_take _ _ l i (by omega), cel2_drop _ _ l (i + 1) (by omega), ← cel2_app, List.eraseIdx_eq_take_drop_succ]
  have HXX : Hid ((pce l).take (i * 2) ++ (pce l).drop ((i + 1) * 2) = pce (l.eraseIdx i)) := hxx
  have hel : (l.eraseIdx i).length = i + m := by rw [List.length_eraseIdx_of_lt (by omega)]; omega
  have HEL : Hid ((l.eraseIdx i).length = i + m) := hel
  have HOWN : Hid (W.ownsRow w0.heap.size 35 2 (.slice (some ⟨g, 0, none⟩) l.length cap) l.length (pce l)) := hown
  have hb1 : ((i : Int) + (m : Int)) ≤ (l.length : Int) := by omega
  have hb2 : (0 : Int) ≤ (i : Int) + (m : Int) := by omega
  have hb3 : ((i : Int) + (m : Int)).toNat = i + m := by omega
  have hb4 : i + m ≤ l.length := by omega
  have hbc := hcap.1
  have hic : i ≤ cap := by omega
  have hi1 : ((i + 1 : Nat) : Int) ≤ (l.length : Int) := by omega
  have hi2 : (i : Int) + 1 ≤ (l.length : Int) := by omega
  have hi3 : (0 : Int) ≤ (i : Int) + 1 := by omega
  have hi4 : ((i : Int) + 1).toNat = i + 1 := by omega
  have HM : Hid (l.length = i + 1 + m) := hm
  clear hxx hel hown hcl hm hlen
  go_enter Tryz.func53, Tryz.ntmps53
  go_wp2_with fail
  go_region_law (refine step_append_fits _ rfl (.tmp 22) (.tmp 25) 24 rfl w0.heap.size 35 i0 2 Tryz.underlying24 hi0 hz1 g i cap _ (by simp [Act.eval, Act.put]) hx1.out ⟨g, (i + 1) * 2, none⟩ m (cap - (i + 1)) _ (by simp [Act.eval, Act.put, hm1, hne]) hx2.out hx3.out hx4.out (by have := HM.out; omega) ?_; intro w1 hw1 hg1')
  obtain ⟨ys, hys⟩ := own_more hw1 hb4 hbc
  obtain ⟨w2, hcl2, hw2, hg2'⟩ := clear_row2 t0 v1 rfl (by simp [Value.cells, Value.oneCell']) hys (show i + m < l.length by have := HM.out; omega)
  go_wp2
  go_ret
  have hgr : W.grownBy w2 (some g) := gr_trans (gr_trans (gr_drew (gr_self W)) hg1') hg2'
  refine ⟨.slice (some ⟨g, 0, none⟩) (i + m) cap, by simp, ?_, hgr, hbw.grown hgr hbw.size (fun k hk => by cases hk; exact hg1)⟩
  rw [HEL.out, ← HXX.out]
  rw [List.take_left' hw1.1] at hw2
  exact hw2
end Go.Proofs

/-
  POLYLINE: within, on, collinear, meet, crossed, simple, Check. Own work.
-/
namespace Go.Proofs
open Go Go.Pi Go.RowKit Go.Ar Go.Ge

theorem mn_swap {a b : Pt} (h : 0 < cmpP a b) : mn a b = b ∧ mx a b = a := by
  have := (cmpP_gt a b).1 h
  unfold mn mx
  rw [if_neg this, if_neg this]; exact ⟨rfl, rfl⟩
theorem mn_same {a b : Pt} (h : ¬0 < cmpP a b) : mn a b = a ∧ mx a b = b := by
  have : le a b := by rw [← cmpP_le]; omega
  unfold mn mx
  rw [if_pos this, if_pos this]; exact ⟨rfl, rfl⟩
theorem btw_mn {a b p : Pt} (h : ar a b p = 0) : btw a b p ↔ le (mn a b) p ∧ le p (mx a b) := btw_col h
theorem trn_zero {a b c : Pt} : trn a b c = 0 ↔ ar a b c = 0 := by
  unfold trn
  rw [Int.sign_eq_zero_iff_zero, Rat.num_eq_zero]
/-- how two segments meet, as data -/
def mtD : Mt → D
  | .apart => .tup [.int .i64 0, .agg [.str [], .str []]]
  | .touch p => .tup [.int .i64 1, ptD p]
  | .over => .tup [.int .i64 2, .agg [.str [], .str []]]
theorem mtD_al (m : Mt) : aliasOf (mtD m) = none := by cases m <;> rfl
theorem fin0 : resD [(8, D.int IntKind.i64 0), (9, D.box true [D.str [], D.str []])] [RV.t 8, RV.c 9 true 2] = some (mtD .apart) := by
  simp [resD_two, rvD, lk, D.plain, D.isPure, optAll, mtD, ofCells]
theorem fin1 (p : Pt) : resD [(8, D.int IntKind.i64 1), (9, D.box true [D.str (rt p.1), D.str (rt p.2)])] [RV.t 8, RV.c 9 true 2] = some (mtD (.touch p)) := by
  simp [resD_two, rvD, lk, D.plain, D.isPure, optAll, mtD, ptD, ofCells]
theorem fin2 : resD [(8, D.int IntKind.i64 2), (9, D.box true [D.str [], D.str []])] [RV.t 8, RV.c 9 true 2] = some (mtD .over) := by
  simp [resD_two, rvD, lk, D.plain, D.isPure, optAll, mtD, ofCells]
/-- segments on one line, each from its lesser end on -/
def colS (a b c d : Pt) : Mt :=
  if 0 < cmpP (if 0 < cmpP c a then c else a) (if cmpP d b < 0 then d else b) then .apart
  else if cmpP (if 0 < cmpP c a then c else a) (if cmpP d b < 0 then d else b) = 0 then .touch (if 0 < cmpP c a then c else a) else .over
theorem low_eq {a c : Pt} : (if 0 < cmpP c a then c else a) = mx a c := by
  unfold mx
  split
  · rename_i h
    rw [cmpP_gt] at h
    rw [if_pos ((le_total a c).resolve_right h)]
  · rename_i h
    rw [cmpP_gt, Classical.not_not] at h
    split
    · rename_i h2; exact le_antisymm h2 h
    · rfl
theorem high_eq {b d : Pt} : (if cmpP d b < 0 then d else b) = mn b d := by
  unfold mn
  split
  · rename_i h
    rw [cmpP_lt] at h
    by_cases h2 : le b d
    · exact absurd (le_antisymm h.1 h2) h.2
    · rw [if_neg h2]
  · rename_i h
    rw [cmpP_lt] at h
    split
    · rfl
    · rename_i h2
      by_cases e : d = b
      · rw [e]
      · exact absurd ⟨(le_total b d).resolve_left h2, e⟩ h
theorem colP_S (a b c d : Pt) : colP a b c d = colS (mn a b) (mx a b) (mn c d) (mx c d) := by
  unfold colS
  rw [low_eq, high_eq]
  show (if mx (mn a b) (mn c d) = mn (mx a b) (mx c d) then Mt.touch (mx (mn a b) (mn c d)) else if le (mx (mn a b) (mn c d)) (mn (mx a b) (mx c d)) then .over else .apart) = _
  generalize mx (mn a b) (mn c d) = x
  generalize mn (mx a b) (mx c d) = y
  by_cases e : x = y
  · rw [if_pos e, if_neg (by rw [(cmpP_zero x y).2 e]; decide), if_pos ((cmpP_zero x y).2 e)]
  · rw [if_neg e]
    by_cases h : le x y
    · rw [if_pos h, if_neg (by rw [cmpP_gt]; exact fun k => k h), if_neg (fun k => e ((cmpP_zero x y).1 k))]
    · rw [if_neg h, if_pos ((cmpP_gt x y).2 h)]
set_option maxHeartbeats 4000000 in
theorem Tryz.pcollinear (a b c d : Pt) (ha : Sz 300 a) (hb : Sz 300 b) (hc : Sz 300 c) (hd : Sz 300 d) : Con Tryz.prog Tryz.L 96 [ptD a, ptD b, ptD c, ptD d] (mtD (colP a b c d)) := by
  rw [colP_S]
  refine rule96 Tryz.hL (mtD_al _) rfl rfl ?_
  simp only [ptD, pc96, rs96, oU, oC, evX, evY, evZ, forall_const, implies_true, initE, stepF, D.clean, mvF, moF, tkF, shF, ariF, ciF, catF, scF, ebF, eqF, eqOk, eqPr, enF, notF, ngF, cvF, csF, csbF, lenF, lenSF, ixF, iaF, PX.slot, iaAF, faF, ldF, D.mem, stF, bxF, mkSF, boundF, fldF, ixAF, mmF2, D.plain, D.isPure, optAll, D.dull, callVF, splice, D.cells, D.one, sets, resT, D.flat, D.flat0, D.simple, Nat.reduceBNe, Nat.reduceLT, reduceIte, Nat.reduceEqDiff, Nat.reduceAdd, Nat.reduceMul, Nat.reduceSub, Nat.reduceLeDiff, Int.reduceToNat, Int.reduceLT, Int.reduceLE, Int.reduceEq, Int.reduceNeg, Int.reduceSub, Int.reduceAdd, Int.reduceMul, stG_own]
  refine callF_of (Tryz.pcompare a b ha hb) ?_
  (refine ev ?_; try with_reducible exact trivial)
  refine ⟨fun h => ?_, fun h => ?_⟩
  · rw [(mn_swap h).1, (mn_swap h).2]
    refine callF_of (Tryz.pcompare c d hc hd) ?_
    (refine ev ?_; try with_reducible exact trivial)
    refine ⟨fun h2 => ?_, fun h2 => ?_⟩
    · rw [(mn_swap h2).1, (mn_swap h2).2]
      refine callF_of (Tryz.pcompare d b hd hb) ?_
      (refine ev ?_; try with_reducible exact trivial)
      refine ⟨fun h3 => ?_, fun h3 => ?_⟩
      · refine callF_of (Tryz.pcompare c a hc ha) ?_
        (refine ev ?_; try with_reducible exact trivial)
        refine ⟨fun h4 => ?_, fun h4 => ?_⟩
        · refine callF_of (Tryz.pcompare d c hd hc) ?_
          (refine ev ?_; try with_reducible exact trivial)
          unfold colS
          rw [if_pos h3, if_pos h4]
          refine ⟨fun h5 => ?_, fun h5 => ⟨fun h6 => ?_, fun h6 => ?_⟩⟩
          · rw [if_pos h5]; exact fin0
          · rw [if_neg h5, if_pos h6]; exact fin1 _
          · rw [if_neg h5, if_neg h6]; exact fin2
        · refine callF_of (Tryz.pcompare d a hd ha) ?_
          (refine ev ?_; try with_reducible exact trivial)
          unfold colS
          rw [if_pos h3, if_neg h4]
          refine ⟨fun h5 => ?_, fun h5 => ⟨fun h6 => ?_, fun h6 => ?_⟩⟩
          · rw [if_pos h5]; exact fin0
          · rw [if_neg h5, if_pos h6]; exact fin1 _
          · rw [if_neg h5, if_neg h6]; exact fin2
      · refine callF_of (Tryz.pcompare c a hc ha) ?_
        (refine ev ?_; try with_reducible exact trivial)
        refine ⟨fun h4 => ?_, fun h4 => ?_⟩
        · refine callF_of (Tryz.pcompare b c hb hc) ?_
          (refine ev ?_; try with_reducible exact trivial)
          unfold colS
          rw [if_neg h3, if_pos h4]
          refine ⟨fun h5 => ?_, fun h5 => ⟨fun h6 => ?_, fun h6 => ?_⟩⟩
          · rw [if_pos h5]; exact fin0
          · rw [if_neg h5, if_pos h6]; exact fin1 _
          · rw [if_neg h5, if_neg h6]; exact fin2
        · refine callF_of (Tryz.pcompare b a hb ha) ?_
          (refine ev ?_; try with_reducible exact trivial)
          unfold colS
          rw [if_neg h3, if_neg h4]
          refine ⟨fun h5 => ?_, fun h5 => ⟨fun h6 => ?_, fun h6 => ?_⟩⟩
          · rw [if_pos h5]; exact fin0
          · rw [if_neg h5, if_pos h6]; exact fin1 _
          · rw [if_neg h5, if_neg h6]; exact fin2
    · rw [(mn_same h2).1, (mn_same h2).2]
      refine callF_of (Tryz.pcompare c b hc hb) ?_
      (refine ev ?_; try with_reducible exact trivial)
      refine ⟨fun h3 => ?_, fun h3 => ?_⟩
      · refine callF_of (Tryz.pcompare d a hd ha) ?_
        (refine ev ?_; try with_reducible exact trivial)
        refine ⟨fun h4 => ?_, fun h4 => ?_⟩
        · refine callF_of (Tryz.pcompare c d hc hd) ?_
          (refine ev ?_; try with_reducible exact trivial)
          unfold colS
          rw [if_pos h3, if_pos h4]
          refine ⟨fun h5 => ?_, fun h5 => ⟨fun h6 => ?_, fun h6 => ?_⟩⟩
          · rw [if_pos h5]; exact fin0
          · rw [if_neg h5, if_pos h6]; exact fin1 _
          · rw [if_neg h5, if_neg h6]; exact fin2
        · refine callF_of (Tryz.pcompare c a hc ha) ?_
          (refine ev ?_; try with_reducible exact trivial)
          unfold colS
          rw [if_pos h3, if_neg h4]
          refine ⟨fun h5 => ?_, fun h5 => ⟨fun h6 => ?_, fun h6 => ?_⟩⟩
          · rw [if_pos h5]; exact fin0
          · rw [if_neg h5, if_pos h6]; exact fin1 _
          · rw [if_neg h5, if_neg h6]; exact fin2
      · refine callF_of (Tryz.pcompare d a hd ha) ?_
        (refine ev ?_; try with_reducible exact trivial)
        refine ⟨fun h4 => ?_, fun h4 => ?_⟩
        · refine callF_of (Tryz.pcompare b d hb hd) ?_
          (refine ev ?_; try with_reducible exact trivial)
          unfold colS
          rw [if_neg h3, if_pos h4]
          refine ⟨fun h5 => ?_, fun h5 => ⟨fun h6 => ?_, fun h6 => ?_⟩⟩
          · rw [if_pos h5]; exact fin0
          · rw [if_neg h5, if_pos h6]; exact fin1 _
          · rw [if_neg h5, if_neg h6]; exact fin2
        · refine callF_of (Tryz.pcompare b a hb ha) ?_
          (refine ev ?_; try with_reducible exact trivial)
          unfold colS
          rw [if_neg h3, if_neg h4]
          refine ⟨fun h5 => ?_, fun h5 => ⟨fun h6 => ?_, fun h6 => ?_⟩⟩
          · rw [if_pos h5]; exact fin0
          · rw [if_neg h5, if_pos h6]; exact fin1 _
          · rw [if_neg h5, if_neg h6]; exact fin2
  · rw [(mn_same h).1, (mn_same h).2]
    refine callF_of (Tryz.pcompare c d hc hd) ?_
    (refine ev ?_; try with_reducible exact trivial)
    refine ⟨fun h2 => ?_, fun h2 => ?_⟩
    · rw [(mn_swap h2).1, (mn_swap h2).2]
      refine callF_of (Tryz.pcompare d a hd ha) ?_
      (refine ev ?_; try with_reducible exact trivial)
      refine ⟨fun h3 => ?_, fun h3 => ?_⟩
      · refine callF_of (Tryz.pcompare c b hc hb) ?_
        (refine ev ?_; try with_reducible exact trivial)
        refine ⟨fun h4 => ?_, fun h4 => ?_⟩
        · refine callF_of (Tryz.pcompare d c hd hc) ?_
          (refine ev ?_; try with_reducible exact trivial)
          unfold colS
          rw [if_pos h3, if_pos h4]
          refine ⟨fun h5 => ?_, fun h5 => ⟨fun h6 => ?_, fun h6 => ?_⟩⟩
          · rw [if_pos h5]; exact fin0
          · rw [if_neg h5, if_pos h6]; exact fin1 _
          · rw [if_neg h5, if_neg h6]; exact fin2
        · refine callF_of (Tryz.pcompare d b hd hb) ?_
          (refine ev ?_; try with_reducible exact trivial)
          unfold colS
          rw [if_pos h3, if_neg h4]
          refine ⟨fun h5 => ?_, fun h5 => ⟨fun h6 => ?_, fun h6 => ?_⟩⟩
          · rw [if_pos h5]; exact fin0
          · rw [if_neg h5, if_pos h6]; exact fin1 _
          · rw [if_neg h5, if_neg h6]; exact fin2
      · refine callF_of (Tryz.pcompare c b hc hb) ?_
        (refine ev ?_; try with_reducible exact trivial)
        refine ⟨fun h4 => ?_, fun h4 => ?_⟩
        · refine callF_of (Tryz.pcompare a c ha hc) ?_
          (refine ev ?_; try with_reducible exact trivial)
          unfold colS
          rw [if_neg h3, if_pos h4]
          refine ⟨fun h5 => ?_, fun h5 => ⟨fun h6 => ?_, fun h6 => ?_⟩⟩
          · rw [if_pos h5]; exact fin0
          · rw [if_neg h5, if_pos h6]; exact fin1 _
          · rw [if_neg h5, if_neg h6]; exact fin2
        · refine callF_of (Tryz.pcompare a b ha hb) ?_
          (refine ev ?_; try with_reducible exact trivial)
          unfold colS
          rw [if_neg h3, if_neg h4]
          refine ⟨fun h5 => ?_, fun h5 => ⟨fun h6 => ?_, fun h6 => ?_⟩⟩
          · rw [if_pos h5]; exact fin0
          · rw [if_neg h5, if_pos h6]; exact fin1 _
          · rw [if_neg h5, if_neg h6]; exact fin2
    · rw [(mn_same h2).1, (mn_same h2).2]
      refine callF_of (Tryz.pcompare c a hc ha) ?_
      (refine ev ?_; try with_reducible exact trivial)
      refine ⟨fun h3 => ?_, fun h3 => ?_⟩
      · refine callF_of (Tryz.pcompare d b hd hb) ?_
        (refine ev ?_; try with_reducible exact trivial)
        refine ⟨fun h4 => ?_, fun h4 => ?_⟩
        · refine callF_of (Tryz.pcompare c d hc hd) ?_
          (refine ev ?_; try with_reducible exact trivial)
          unfold colS
          rw [if_pos h3, if_pos h4]
          refine ⟨fun h5 => ?_, fun h5 => ⟨fun h6 => ?_, fun h6 => ?_⟩⟩
          · rw [if_pos h5]; exact fin0
          · rw [if_neg h5, if_pos h6]; exact fin1 _
          · rw [if_neg h5, if_neg h6]; exact fin2
        · refine callF_of (Tryz.pcompare c b hc hb) ?_
          (refine ev ?_; try with_reducible exact trivial)
          unfold colS
          rw [if_pos h3, if_neg h4]
          refine ⟨fun h5 => ?_, fun h5 => ⟨fun h6 => ?_, fun h6 => ?_⟩⟩
          · rw [if_pos h5]; exact fin0
          · rw [if_neg h5, if_pos h6]; exact fin1 _
          · rw [if_neg h5, if_neg h6]; exact fin2
      · refine callF_of (Tryz.pcompare d b hd hb) ?_
        (refine ev ?_; try with_reducible exact trivial)
        refine ⟨fun h4 => ?_, fun h4 => ?_⟩
        · refine callF_of (Tryz.pcompare a d ha hd) ?_
          (refine ev ?_; try with_reducible exact trivial)
          unfold colS
          rw [if_neg h3, if_pos h4]
          refine ⟨fun h5 => ?_, fun h5 => ⟨fun h6 => ?_, fun h6 => ?_⟩⟩
          · rw [if_pos h5]; exact fin0
          · rw [if_neg h5, if_pos h6]; exact fin1 _
          · rw [if_neg h5, if_neg h6]; exact fin2
        · refine callF_of (Tryz.pcompare a b ha hb) ?_
          (refine ev ?_; try with_reducible exact trivial)
          unfold colS
          rw [if_neg h3, if_neg h4]
          refine ⟨fun h5 => ?_, fun h5 => ⟨fun h6 => ?_, fun h6 => ?_⟩⟩
          · rw [if_pos h5]; exact fin0
          · rw [if_neg h5, if_pos h6]; exact fin1 _
          · rw [if_neg h5, if_neg h6]; exact fin2
end Go.Proofs

/-
  POLYLINE: meet, crossed, simple, Check. Own work.
-/
namespace Go.Proofs
open Go Go.Pi Go.RowKit Go.Ar Go.Ge

theorem trn_mul (a b c d e f : Pt) : (0 < trn a b c * trn d e f ↔ 0 < ar a b c * ar d e f) := by
  unfold trn
  generalize ar a b c = x
  generalize ar d e f = y
  have sx : ∀ z : Rat, (z.num.sign = 1 ∧ 0 < z) ∨ (z.num.sign = -1 ∧ z < 0) ∨ (z.num.sign = 0 ∧ z = 0) := fun z => by
    rcases Int.lt_trichotomy z.num 0 with h | h | h
    · exact .inr (.inl ⟨Int.sign_eq_neg_one_of_neg h, Rat.not_le.1 fun h' => by have := Rat.num_nonneg.2 h'; omega⟩)
    · exact .inr (.inr ⟨by rw [h]; rfl, Rat.num_eq_zero.1 h⟩)
    · refine .inl ⟨Int.sign_eq_one_of_pos h, ?_⟩
      have h3 := Rat.num_nonneg.1 (Int.le_of_lt h)
      have h4 : z ≠ 0 := fun e => by rw [e] at h; exact absurd h (by decide)
      exact Rat.not_le.1 fun h5 => h4 (Rat.le_antisymm h5 h3)
  have hp := (sgp x y)
  rcases sx x with ⟨e1, h1⟩ | ⟨e1, h1⟩ | ⟨e1, h1⟩ <;> rcases sx y with ⟨e2, h2⟩ | ⟨e2, h2⟩ | ⟨e2, h2⟩ <;> rw [e1, e2]
  · exact ⟨fun _ => Rat.mul_pos h1 h2, fun _ => by decide⟩
  · exact ⟨fun h => absurd h (by decide), fun h => absurd (hp.2.1 (Rat.le_of_lt h1) (Rat.le_of_lt h2)) (Rat.not_le.2 h)⟩
  · exact ⟨fun h => absurd h (by decide), fun h => by rw [h2, Rat.mul_zero] at h; exact absurd h (by decide)⟩
  · exact ⟨fun h => absurd h (by decide), fun h => absurd (hp.2.2.1 (Rat.le_of_lt h1) (Rat.le_of_lt h2)) (Rat.not_le.2 h)⟩
  · exact ⟨fun _ => by have := Rat.mul_pos (show 0 < -x by grind) (show 0 < -y by grind); grind, fun _ => by decide⟩
  · exact ⟨fun h => absurd h (by decide), fun h => by rw [h2, Rat.mul_zero] at h; exact absurd h (by decide)⟩
  · exact ⟨fun h => absurd h (by decide), fun h => by rw [h1, Rat.zero_mul] at h; exact absurd h (by decide)⟩
  · exact ⟨fun h => absurd h (by decide), fun h => by rw [h1, Rat.zero_mul] at h; exact absurd h (by decide)⟩
  · exact ⟨fun h => absurd h (by decide), fun h => by rw [h1, Rat.zero_mul] at h; exact absurd h (by decide)⟩
theorem Tryz.palong (k x y : Rat) (hk : rd k ≤ 4500) (hx : rd x ≤ 30) (hy : rd y ≤ 30) : Con Tryz.prog Tryz.L 97 ([.str (rt x), .str (rt y)] ++ [.pt [.str (rt k)]]) (.str (rt (x + k * (y - x)))) := by
  have s1 := rd_sub y x
  have s2 := rd_mul k (y - x)
  refine rule97 Tryz.hL rfl rfl rfl ?_
  simp only [pc97, rs97, oU, oC, List.cons_append, List.nil_append, evX, evY, evZ, forall_const, implies_true, initE, stepF, D.clean, mvF, moF, tkF, shF, ariF, ciF, catF, scF, ebF, eqF, eqOk, eqPr, enF, notF, ngF, cvF, csF, csbF, lenF, lenSF, ixF, iaF, PX.slot, iaAF, faF, ldF, D.mem, stF, bxF, mkSF, boundF, fldF, ixAF, mmF2, D.plain, D.isPure, optAll, D.dull, callVF, splice, D.cells, D.one, sets, resT, D.flat, D.flat0, D.simple, Nat.reduceBNe, Nat.reduceLT, reduceIte, Nat.reduceEqDiff, Nat.reduceAdd, Nat.reduceMul, Nat.reduceSub, Nat.reduceLeDiff, Int.reduceToNat, Int.reduceLT, Int.reduceLE, Int.reduceEq, Int.reduceNeg, Int.reduceSub, Int.reduceAdd, Int.reduceMul, stG_own]
  refine callF_of (Tryz.rsub y x (by omega) (by omega)) ?_
  (refine ev ?_; try with_reducible exact trivial)
  refine callF_of (Tryz.rmul k (y - x) (by omega) (by omega)) ?_
  (refine ev ?_; try with_reducible exact trivial)
  refine callF_of (Tryz.radd x (k * (y - x)) (by omega) (by omega)) ?_
  (refine ev ?_; try with_reducible exact trivial)
theorem Sz.more {k l : Nat} {p : Pt} (h : Sz k p) (hl : k ≤ l) : Sz l p := ⟨Nat.le_trans h.1 hl, Nat.le_trans h.2 hl⟩
theorem rd_ar30 {a b c : Pt} (ha : Sz 30 a) (hb : Sz 30 b) (hc : Sz 30 c) : rd (ar a b c) ≤ 245 := by
  unfold ar
  obtain ⟨a1, a2⟩ := ha
  obtain ⟨b1, b2⟩ := hb
  obtain ⟨c1, c2⟩ := hc
  have s1 := rd_sub b.1 a.1
  have s2 := rd_sub c.2 a.2
  have s3 := rd_sub b.2 a.2
  have s4 := rd_sub c.1 a.1
  have m1 := rd_mul (b.1 - a.1) (c.2 - a.2)
  have m2 := rd_mul (b.2 - a.2) (c.1 - a.1)
  have := rd_sub ((b.1 - a.1) * (c.2 - a.2)) ((b.2 - a.2) * (c.1 - a.1))
  omega
theorem trn_b (a b c : Pt) : -1 ≤ trn a b c ∧ trn a b c ≤ 1 := by
  unfold trn
  rcases Int.lt_trichotomy (ar a b c).num 0 with h | h | h
  · rw [Int.sign_eq_neg_one_of_neg h]; decide
  · rw [h]; decide
  · rw [Int.sign_eq_one_of_pos h]; decide
theorem trn_prod (a b c d e f : Pt) : -1 ≤ trn a b c * trn d e f ∧ trn a b c * trn d e f ≤ 1 := by
  have h1 := trn_b a b c
  have h2 := trn_b d e f
  generalize trn a b c = x at *
  generalize trn d e f = y at *
  obtain rfl | rfl | rfl : x = -1 ∨ x = 0 ∨ x = 1 := by omega
  all_goals omega
set_option maxHeartbeats 4000000 in
theorem Tryz.pmeet (a b c d : Pt) (ha : Sz 30 a) (hb : Sz 30 b) (hc : Sz 30 c) (hd : Sz 30 d) : Con Tryz.prog Tryz.L 46 [ptD a, ptD b, ptD c, ptD d] (mtD (meetP a b c d)) := by
  have hA := ha.more (show 30 ≤ 300 by decide)
  have hB := hb.more (show 30 ≤ 300 by decide)
  have hC := hc.more (show 30 ≤ 300 by decide)
  have hD := hd.more (show 30 ≤ 300 by decide)
  have c1 := Tryz.pturn a b c hA hB hC
  have c2 := Tryz.pturn a b d hA hB hD
  have c3 := Tryz.pturn c d a hC hD hA
  have c4 := Tryz.pturn c d b hC hD hB
  have c5 := Tryz.pcollinear a b c d hA hB hC hD
  have c6 := Tryz.parea a b c hA hB hC
  have c7 := Tryz.parea a b d hA hB hD
  have r1 := rd_ar30 ha hb hc
  have r2 := rd_ar30 ha hb hd
  have r3 := rd_sub (ar a b c) (ar a b d)
  have r4 := rd_div (ar a b c) (ar a b c - ar a b d)
  have z1 := trn_zero (a := a) (b := b) (c := c)
  have z2 := trn_zero (a := a) (b := b) (c := d)
  have p1 := trn_mul a b c a b d
  have p2 := trn_mul c d a c d b
  have q1 := trn_prod a b c a b d
  have q2 := trn_prod c d a c d b
  refine rule46 Tryz.hL (mtD_al _) rfl rfl ?_
  unfold meetP
  simp only [ptD, pc46, rs46, oU, oC, evX, evY, evZ, forall_const, implies_true, initE, stepF, D.clean, mvF, moF, tkF, shF, ariF, ciF, catF, scF, ebF, eqF, eqOk, eqPr, enF, notF, ngF, cvF, csF, csbF, lenF, lenSF, ixF, iaF, PX.slot, iaAF, faF, ldF, D.mem, stF, bxF, mkSF, boundF, fldF, ixAF, mmF2, D.plain, D.isPure, optAll, D.dull, callVF, splice, D.cells, D.one, sets, resT, D.flat, D.flat0, D.simple, Nat.reduceBNe, Nat.reduceLT, reduceIte, Nat.reduceEqDiff, Nat.reduceAdd, Nat.reduceMul, Nat.reduceSub, Nat.reduceLeDiff, Int.reduceToNat, Int.reduceLT, Int.reduceLE, Int.reduceEq, Int.reduceNeg, Int.reduceSub, Int.reduceAdd, Int.reduceMul, stG_own]
  refine callF_of c1 ?_
  (refine ev ?_; try with_reducible exact trivial)
  refine callF_of c2 ?_
  (refine ev ?_; try with_reducible exact trivial)
  refine callF_of c3 ?_
  (refine ev ?_; try with_reducible exact trivial)
  refine callF_of c4 ?_
  (refine ev ?_; try with_reducible exact trivial)
  generalize trn a b c = s1 at *
  generalize trn a b d = s2 at *
  generalize trn c d a = s3 at *
  generalize trn c d b = s4 at *
  refine ⟨fun h1 => ⟨fun h2 => ?_, fun h2 => ?_⟩, fun h1 => ?_⟩
  · rw [if_pos ⟨z1.1 h1, z2.1 h2⟩]
    generalize colP a b c d = m at *
    refine callF_of c5 ?_
    cases m with
    | apart => simp only [mtD, ptD, evX, evY, evZ, forall_const, implies_true, initE, stepF, D.clean, mvF, moF, tkF, shF, ariF, ciF, catF, scF, ebF, eqF, eqOk, eqPr, enF, notF, ngF, cvF, csF, csbF, lenF, lenSF, ixF, iaF, PX.slot, iaAF, faF, ldF, D.mem, stF, bxF, mkSF, boundF, fldF, ixAF, mmF2, D.plain, D.isPure, optAll, D.dull, callVF, splice, D.cells, D.one, sets, resT, D.flat, D.flat0, D.simple, Nat.reduceBNe, Nat.reduceLT, reduceIte, Nat.reduceEqDiff, Nat.reduceAdd, Nat.reduceMul, Nat.reduceSub, Nat.reduceLeDiff, Int.reduceToNat, Int.reduceLT, Int.reduceLE, Int.reduceEq, Int.reduceNeg, Int.reduceSub, Int.reduceAdd, Int.reduceMul, stG_own]; exact fin0
    | touch p => simp only [mtD, ptD, evX, evY, evZ, forall_const, implies_true, initE, stepF, D.clean, mvF, moF, tkF, shF, ariF, ciF, catF, scF, ebF, eqF, eqOk, eqPr, enF, notF, ngF, cvF, csF, csbF, lenF, lenSF, ixF, iaF, PX.slot, iaAF, faF, ldF, D.mem, stF, bxF, mkSF, boundF, fldF, ixAF, mmF2, D.plain, D.isPure, optAll, D.dull, callVF, splice, D.cells, D.one, sets, resT, D.flat, D.flat0, D.simple, Nat.reduceBNe, Nat.reduceLT, reduceIte, Nat.reduceEqDiff, Nat.reduceAdd, Nat.reduceMul, Nat.reduceSub, Nat.reduceLeDiff, Int.reduceToNat, Int.reduceLT, Int.reduceLE, Int.reduceEq, Int.reduceNeg, Int.reduceSub, Int.reduceAdd, Int.reduceMul, stG_own]; exact fin1 _
    | over => simp only [mtD, ptD, evX, evY, evZ, forall_const, implies_true, initE, stepF, D.clean, mvF, moF, tkF, shF, ariF, ciF, catF, scF, ebF, eqF, eqOk, eqPr, enF, notF, ngF, cvF, csF, csbF, lenF, lenSF, ixF, iaF, PX.slot, iaAF, faF, ldF, D.mem, stF, bxF, mkSF, boundF, fldF, ixAF, mmF2, D.plain, D.isPure, optAll, D.dull, callVF, splice, D.cells, D.one, sets, resT, D.flat, D.flat0, D.simple, Nat.reduceBNe, Nat.reduceLT, reduceIte, Nat.reduceEqDiff, Nat.reduceAdd, Nat.reduceMul, Nat.reduceSub, Nat.reduceLeDiff, Int.reduceToNat, Int.reduceLT, Int.reduceLE, Int.reduceEq, Int.reduceNeg, Int.reduceSub, Int.reduceAdd, Int.reduceMul, stG_own]; exact fin2
  · have hnz : ¬(ar a b c = 0 ∧ ar a b d = 0) := fun h => h2 (z2.2 h.2)
    rw [if_neg hnz]
    have hq0 : ¬(0 < s1 * s2) → ar a b c - ar a b d ≠ 0 := fun h => (rat_sgn (fun h' => h (p1.2 h')) hnz).1
    refine ⟨⟨by omega, by omega⟩, fun hp1 => ⟨⟨by omega, by omega⟩, fun hp2 => ?_, fun hp2 => ?_⟩, fun hp1 => ?_⟩
    · rw [if_pos (.inr (p2.1 hp2))]; exact fin0
    · rw [if_neg (fun h => h.elim (fun h => hp1 (p1.2 h)) (fun h => hp2 (p2.2 h)))]
      refine callF_of c6 ?_
      (refine ev ?_; try with_reducible exact trivial)
      refine callF_of c7 ?_
      (refine ev ?_; try with_reducible exact trivial)
      refine callF_of (Tryz.rsub (ar a b c) (ar a b d) (by omega) (by omega)) ?_
      (refine ev ?_; try with_reducible exact trivial)
      refine callF_of (Tryz.rdiv (ar a b c) (ar a b c - ar a b d) (by omega) (by omega) (hq0 hp1)) ?_
      (refine ev ?_; try with_reducible exact trivial)
      refine callF_of (Tryz.palong (ar a b c / (ar a b c - ar a b d)) c.1 d.1 (by omega) hc.1 hd.1) ?_
      (refine ev ?_; try with_reducible exact trivial)
      refine callF_of (Tryz.palong (ar a b c / (ar a b c - ar a b d)) c.2 d.2 (by omega) hc.2 hd.2) ?_
      (refine ev ?_; try with_reducible exact trivial)
      exact fin1 (atK c d (ar a b c) (ar a b d))
    · rw [if_pos (.inl (p1.1 hp1))]; exact fin0
  · have hnz : ¬(ar a b c = 0 ∧ ar a b d = 0) := fun h => h1 (z1.2 h.1)
    rw [if_neg hnz]
    have hq0 : ¬(0 < s1 * s2) → ar a b c - ar a b d ≠ 0 := fun h => (rat_sgn (fun h' => h (p1.2 h')) hnz).1
    refine ⟨⟨by omega, by omega⟩, fun hp1 => ⟨⟨by omega, by omega⟩, fun hp2 => ?_, fun hp2 => ?_⟩, fun hp1 => ?_⟩
    · rw [if_pos (.inr (p2.1 hp2))]; exact fin0
    · rw [if_neg (fun h => h.elim (fun h => hp1 (p1.2 h)) (fun h => hp2 (p2.2 h)))]
      refine callF_of c6 ?_
      (refine ev ?_; try with_reducible exact trivial)
      refine callF_of c7 ?_
      (refine ev ?_; try with_reducible exact trivial)
      refine callF_of (Tryz.rsub (ar a b c) (ar a b d) (by omega) (by omega)) ?_
      (refine ev ?_; try with_reducible exact trivial)
      refine callF_of (Tryz.rdiv (ar a b c) (ar a b c - ar a b d) (by omega) (by omega) (hq0 hp1)) ?_
      (refine ev ?_; try with_reducible exact trivial)
      refine callF_of (Tryz.palong (ar a b c / (ar a b c - ar a b d)) c.1 d.1 (by omega) hc.1 hd.1) ?_
      (refine ev ?_; try with_reducible exact trivial)
      refine callF_of (Tryz.palong (ar a b c / (ar a b c - ar a b d)) c.2 d.2 (by omega) hc.2 hd.2) ?_
      (refine ev ?_; try with_reducible exact trivial)
      exact fin1 (atK c d (ar a b c) (ar a b d))
    · rw [if_pos (.inl (p1.1 hp1))]; exact fin0
/-- one pair of sides: the program's test, as a bool -/
def crM (m : Mt) (n sg i k : Nat) (gi gk : Pt) : Bool :=
  match m with
  | .apart => false
  | .over => true
  | .touch p => if next n sg i k then (if k = i + 1 ∧ p = gk then false else decide (p ≠ gi ∨ k ≠ n - 1)) else true
def crB (c : List Pt) (sg i k : Nat) : Bool := crM (meetP (gt c i) (gt c ((i + 1) % c.length)) (gt c k) (gt c ((k + 1) % c.length))) c.length sg i k (gt c i) (gt c k)
theorem crB_iff (c : List Pt) (sg i k : Nat) : crB c sg i k = true ↔ crossP (gt c) c.length sg i k := by
  unfold crB crM crossP
  generalize meetP (gt c i) (gt c ((i + 1) % c.length)) (gt c k) (gt c ((k + 1) % c.length)) = m
  cases m with
  | apart => simp
  | over => simp
  | touch p =>
    by_cases h : next c.length sg i k
    · simp only [h, if_true, not_true_eq_false, if_false]
      by_cases h2 : k = i + 1 ∧ p = gt c k
      · rw [if_pos h2, if_pos h2]; simp
      · rw [if_neg h2, if_neg h2, decide_eq_true_eq]
    · simp [h]
set_option maxRecDepth 100000 in
set_option maxHeartbeats 4000000 in
theorem Tryz.pcrossed (c : List Pt) (sg i k : Nat) (hlen : c.length ≤ 400) (hs : sg ≤ c.length) (hik : i < k) (hk : k < sg) (hsz : ∀ p ∈ c, Sz 30 p) : Con Tryz.prog Tryz.L 132 [chn c, .int .i64 sg, .int .i64 i, .int .i64 k] (.bool (crB c sg i k)) := by
  have hg : ∀ j, j < c.length → c[j]? = some (gt c j) := fun j hj => by
    rw [List.getElem?_eq_getElem hj]; simp [gt, List.getD_eq_getElem?_getD, hj]
  have hz : ∀ j, j < c.length → Sz 30 (gt c j) := fun j hj => hsz _ (List.mem_of_getElem? (hg j hj))
  have hn : 0 < c.length := by omega
  have e1 : ((i : Int) + 1).tmod (c.length : Int) = (((i + 1) % c.length : Nat) : Int) := rfl
  have e2 : ((k : Int) + 1).tmod (c.length : Int) = (((k + 1) % c.length : Nat) : Int) := rfl
  have m1 : (i + 1) % c.length < c.length := Nat.mod_lt _ hn
  have m2 : (k + 1) % c.length < c.length := Nat.mod_lt _ hn
  have cm := Tryz.pmeet (gt c i) (gt c ((i + 1) % c.length)) (gt c k) (gt c ((k + 1) % c.length)) (hz _ (by omega)) (hz _ m1) (hz _ (by omega)) (hz _ m2)
  unfold crB
  generalize meetP (gt c i) (gt c ((i + 1) % c.length)) (gt c k) (gt c ((k + 1) % c.length)) = m at *
  refine rule132 Tryz.hL rfl rfl rfl ?_
  simp only [pc132, rs132, oU, oC, evX, evY, evZ, forall_const, implies_true, initE, stepF, D.clean, mvF, moF, tkF, shF, ariF, ciF, catF, scF, ebF, eqF, eqOk, eqPr, enF, notF, ngF, cvF, csF, csbF, lenF, lenSF, ixF, iaF, PX.slot, iaAF, faF, ldF, D.mem, stF, bxF, mkSF, boundF, fldF, ixAF, mmF2, D.plain, D.isPure, optAll, D.dull, callVF, splice, D.cells, D.one, sets, resT, D.flat, D.flat0, D.simple, Nat.reduceBNe, Nat.reduceLT, reduceIte, Nat.reduceEqDiff, Nat.reduceAdd, Nat.reduceMul, Nat.reduceSub, Nat.reduceLeDiff, Int.reduceToNat, Int.reduceLT, Int.reduceLE, Int.reduceEq, Int.reduceNeg, Int.reduceSub, Int.reduceAdd, Int.reduceMul, stG_own, ldC_pts]
  rw [e1, e2]
  simp only [Int.toNat_natCast]
  refine ⟨⟨by omega, by omega, by rw [pts_len]; omega⟩, _, hg i (by omega), ⟨by omega, by omega⟩, by omega, ⟨by omega, by omega, by rw [pts_len]; omega⟩, _, hg _ m1, ⟨by omega, by omega, by rw [pts_len]; omega⟩, _, hg k (by omega), ⟨by omega, by omega⟩, by omega, ⟨by omega, by omega, by rw [pts_len]; omega⟩, _, hg _ m2, ?_⟩
  refine callF_of cm ?_
  cases m with
  | apart =>
    simp only [mtD, ptD, evX, evY, evZ, forall_const, implies_true, initE, stepF, D.clean, mvF, moF, tkF, shF, ariF, ciF, catF, scF, ebF, eqF, eqOk, eqPr, enF, notF, ngF, cvF, csF, csbF, lenF, lenSF, ixF, iaF, PX.slot, iaAF, faF, ldF, D.mem, stF, bxF, mkSF, boundF, fldF, ixAF, mmF2, D.plain, D.isPure, optAll, D.dull, callVF, splice, D.cells, D.one, sets, resT, D.flat, D.flat0, D.simple, Nat.reduceBNe, Nat.reduceLT, reduceIte, Nat.reduceEqDiff, Nat.reduceAdd, Nat.reduceMul, Nat.reduceSub, Nat.reduceLeDiff, Int.reduceToNat, Int.reduceLT, Int.reduceLE, Int.reduceEq, Int.reduceNeg, Int.reduceSub, Int.reduceAdd, Int.reduceMul, stG_own, ldC_pts]
    exact ⟨⟨by omega, by omega⟩, fun _ => ⟨fun _ => ⟨fun _ => ⟨⟨by omega, by omega⟩, rfl⟩, fun _ => rfl⟩, fun _ => rfl⟩, fun _ => rfl⟩
  | over =>
    simp only [mtD, ptD, evX, evY, evZ, forall_const, implies_true, initE, stepF, D.clean, mvF, moF, tkF, shF, ariF, ciF, catF, scF, ebF, eqF, eqOk, eqPr, enF, notF, ngF, cvF, csF, csbF, lenF, lenSF, ixF, iaF, PX.slot, iaAF, faF, ldF, D.mem, stF, bxF, mkSF, boundF, fldF, ixAF, mmF2, D.plain, D.isPure, optAll, D.dull, callVF, splice, D.cells, D.one, sets, resT, D.flat, D.flat0, D.simple, Nat.reduceBNe, Nat.reduceLT, reduceIte, Nat.reduceEqDiff, Nat.reduceAdd, Nat.reduceMul, Nat.reduceSub, Nat.reduceLeDiff, Int.reduceToNat, Int.reduceLT, Int.reduceLE, Int.reduceEq, Int.reduceNeg, Int.reduceSub, Int.reduceAdd, Int.reduceMul, stG_own, ldC_pts]
    exact ⟨⟨by omega, by omega⟩, fun _ => ⟨fun _ => ⟨fun _ => ⟨⟨by omega, by omega⟩, rfl⟩, fun _ => rfl⟩, fun _ => rfl⟩, fun _ => rfl⟩
  | touch p =>
    simp only [mtD, ptD, evX, evY, evZ, forall_const, implies_true, initE, stepF, D.clean, mvF, moF, tkF, shF, ariF, ciF, catF, scF, ebF, eqF, eqOk, eqPr, enF, notF, ngF, cvF, csF, csbF, lenF, lenSF, ixF, iaF, PX.slot, iaAF, faF, ldF, D.mem, stF, bxF, mkSF, boundF, fldF, ixAF, mmF2, D.plain, D.isPure, optAll, D.dull, callVF, splice, D.cells, D.one, sets, resT, D.flat, D.flat0, D.simple, Nat.reduceBNe, Nat.reduceLT, reduceIte, Nat.reduceEqDiff, Nat.reduceAdd, Nat.reduceMul, Nat.reduceSub, Nat.reduceLeDiff, Int.reduceToNat, Int.reduceLT, Int.reduceLE, Int.reduceEq, Int.reduceNeg, Int.reduceSub, Int.reduceAdd, Int.reduceMul, stG_own, ldC_pts]
    have eqp : ∀ x : Pt, eqPr [2, 2] [D.str (rt p.1), D.str (rt p.2)] (pD x) = (p = x) := fun x => propext (eq_pt p x)
    have eqo : ∀ x : Pt, eqOk [2, 2] [D.str (rt p.1), D.str (rt p.2)] (pD x) = True := fun x => eq_true (eqOk_pt p x)
    have b1 : (-9223372036854775808 ≤ (i : Int) + 1 ∧ (i : Int) + 1 ≤ 9223372036854775807) = True := eq_true ⟨by omega, by omega⟩
    have b2 : (-9223372036854775808 ≤ (c.length : Int) - 1 ∧ (c.length : Int) - 1 ≤ 9223372036854775807) = True := eq_true ⟨by omega, by omega⟩
    have b3 : (0 ≤ (k : Int) ∧ (k : Int) < (c.length : Int) ∧ k * 2 + 2 ≤ (pts c).length) = True := eq_true ⟨by omega, by omega, by rw [pts_len]; omega⟩
    have b4 : (0 ≤ (i : Int) ∧ (i : Int) < (c.length : Int) ∧ i * 2 + 2 ≤ (pts c).length) = True := eq_true ⟨by omega, by omega, by rw [pts_len]; omega⟩
    have n1 : ((k : Int) = (i : Int) + 1) = (k = i + 1) := propext (by omega)
    have n2 : ((sg : Int) = (c.length : Int)) = (sg = c.length) := propext (by omega)
    have n3 : ((i : Int) = 0) = (i = 0) := propext (by omega)
    have n4 : ((k : Int) = (c.length : Int) - 1) = (k = c.length - 1) := propext (by omega)
    simp only [eqp, eqo, b1, b2, b3, b4, n1, n2, n3, n4, hg k (by omega), hg i (by omega), Option.some.injEq, exists_eq_left', true_and, Classical.not_not, crM, next]
    rcases Classical.propComplete (k = i + 1) with A | A <;> rcases Classical.propComplete (p = gt c k) with E | E <;> rcases Classical.propComplete (p = gt c i) with F | F <;> rcases Classical.propComplete (k = c.length - 1) with G | G <;> rcases Classical.propComplete (sg = c.length) with B | B <;> rcases Classical.propComplete (i = 0) with C | C <;> simp [A, B, C, G, E, F, dB_True, dB_False]
end Go.Proofs

/-
  POLYLINE: simple, CheckPoint, Check. Own work.
-/
namespace Go.Proofs
open Go Go.Pi Go.RowKit Go.Ar Go.Ge

set_option maxHeartbeats 4000000 in
theorem Tryz.pnumbers (x y : Rat) (hx : rd x ≤ 200) (hy : rd y ≤ 200) : Con Tryz.prog Tryz.L 84 [.sl 2 [.str (rt x), .str (rt y)]] (.int .i64 0) := by
  refine rule84 Tryz.hL rfl rfl rfl ?_
  (simp only [pc84, rs84, oU, oC]; refine ev ?_; try with_reducible exact trivial)
  refine loopF_of (fun E => ∃ k : Nat, k ≤ 2 ∧ E = [(6, .sl 2 [.str (rt x), .str (rt y)]), (7, .int .i64 2), (8, .int .i64 k)])
    (fun E => match lk E 8 with | .int _ i => 2 - i.toNat | _ => 0) ⟨0, by omega, rfl⟩ ?_
  rintro _ ⟨k, hk, rfl⟩
  obtain rfl | rfl | rfl : k = 0 ∨ k = 1 ∨ k = 2 := by omega
  · (refine ev ?_; try with_reducible exact trivial)
    refine fun _ => ⟨⟨by decide, by decide⟩, ?_⟩
    refine callF_of (Tryz.rcheckQ x hx) ?_
    (refine ev ?_; try with_reducible exact trivial)
    refine ⟨⟨by decide, by decide⟩, ⟨1, by omega, rfl⟩, by decide⟩
  · (refine ev ?_; try with_reducible exact trivial)
    refine fun _ => ⟨⟨by decide, by decide⟩, ?_⟩
    refine callF_of (Tryz.rcheckQ y hy) ?_
    (refine ev ?_; try with_reducible exact trivial)
    refine ⟨⟨by decide, by decide⟩, ⟨2, by omega, rfl⟩, by decide⟩
  · (refine ev ?_; try with_reducible exact trivial)
    exact fun h => absurd h (by decide)
theorem Tryz.ppoint (p : Pt) (h : Sz 200 p) : Con Tryz.prog Tryz.L 49 [ptD p] (.int .i64 0) := by
  refine rule49 Tryz.hL rfl rfl rfl ?_
  simp only [ptD, pc49, rs49, oU, oC, evX, evY, evZ, forall_const, implies_true, initE, stepF, D.clean, mvF, moF, tkF, shF, ariF, ciF, catF, scF, ebF, eqF, eqOk, eqPr, enF, notF, ngF, cvF, csF, csbF, lenF, lenSF, ixF, iaF, PX.slot, iaAF, faF, ldF, D.mem, stF, bxF, mkSF, boundF, fldF, ixAF, mmF2, D.plain, D.isPure, optAll, D.dull, callVF, splice, D.cells, D.one, sets, resT, D.flat, D.flat0, D.simple, Nat.reduceBNe, Nat.reduceLT, reduceIte, Nat.reduceEqDiff, Nat.reduceAdd, Nat.reduceMul, Nat.reduceSub, Nat.reduceLeDiff, Int.reduceToNat, Int.reduceLT, Int.reduceLE, Int.reduceEq, Int.reduceNeg, Int.reduceSub, Int.reduceAdd, Int.reduceMul, stG_own]
  refine callF_of (Tryz.pnumbers p.1 p.2 h.1 h.2) ?_
  (refine ev ?_; try with_reducible exact trivial)
set_option maxHeartbeats 4000000 in
theorem Tryz.psimple (c : List Pt) (sg : Nat) (hlen : c.length ≤ 400) (hs : sg ≤ c.length) (hsz : ∀ p ∈ c, Sz 30 p) : Con Tryz.prog Tryz.L 80 [chn c, .int .i64 sg] (.int .i64 (if crs c sg = true then 26 else 0)) := by
  refine rule80 Tryz.hL rfl rfl rfl ?_
  (simp only [pc80, rs80, oU, oC]; refine ev ?_; try with_reducible exact trivial)
  refine loopF_of (fun E => ∃ i : Nat, i ≤ sg ∧ (∀ i' k', i' < i → i' < k' → k' < sg → ¬crossP (gt c) c.length sg i' k') ∧ E = [(0, chn c), (1, .int .i64 sg), (7, .int .i64 sg), (8, .int .i64 i)])
    (fun E => match lk E 8 with | .int _ i => sg - i.toNat | _ => 0) ⟨0, by omega, fun _ _ h => absurd h (by omega), rfl⟩ ?_
  rintro _ ⟨i, hi, hno, rfl⟩
  (refine ev ?_; try with_reducible exact trivial)
  refine ⟨fun h1 => ?_, fun h1 => ?_⟩
  · refine ⟨⟨by omega, by omega⟩, ?_⟩
    refine loopF_of (fun E => ∃ k : Nat, i < k ∧ k ≤ sg ∧ (∀ k', i < k' → k' < k → ¬crossP (gt c) c.length sg i k') ∧ E = [(0, chn c), (1, .int .i64 sg), (5, .int .i64 i), (6, .int .i64 k), (7, .int .i64 sg), (8, .int .i64 i)])
      (fun E => match lk E 6 with | .int _ i => sg - i.toNat | _ => 0) ⟨i + 1, by omega, by omega, fun k' h2 h3 => absurd h3 (by omega), rfl⟩ ?_
    rintro _ ⟨k, hik, hk, hno2, rfl⟩
    (refine ev ?_; try with_reducible exact trivial)
    refine ⟨fun h2 => ?_, fun h2 => ?_⟩
    · refine callF_of (Tryz.pcrossed c sg i k hlen hs hik (by omega) hsz) ?_
      (refine ev ?_; try with_reducible exact trivial)
      cases hb : crB c sg i k with
      | true =>
        (refine ev ?_; try with_reducible exact trivial)
        rw [if_pos (crs_iff.2 ⟨i, k, hik, by omega, (crB_iff c sg i k).1 hb⟩)]
      | false =>
        (refine ev ?_; try with_reducible exact trivial)
        refine ⟨⟨by omega, by omega⟩, ⟨k + 1, by omega, by omega, fun k' h3 h4 => ?_, rfl⟩, by omega⟩
        by_cases e : k' = k
        · rw [e]; intro h5; rw [(crB_iff c sg i k).2 h5] at hb; cases hb
        · exact hno2 k' h3 (by omega)
    · refine ⟨⟨by omega, by omega⟩, ⟨i + 1, by omega, fun i' k' h3 h4 h5 => ?_, rfl⟩, by omega⟩
      by_cases e : i' = i
      · rw [e] at h4 ⊢; exact hno2 k' h4 (by omega)
      · exact hno i' k' (by omega) h4 h5
  · rw [if_neg (fun h => by obtain ⟨i', k', h3, h4, h5⟩ := crs_iff.1 h; exact hno i' k' (by omega) h3 h4 h5)]
set_option maxHeartbeats 4000000 in
theorem Tryz.pcheckL (c : List Pt) (hlen : c.length ≤ 1000) (hsz : ∀ p ∈ c, Sz 30 p) : Con Tryz.prog Tryz.L 42 [chn c] (.int .i64 (chkN c false)) := by
  refine rule42 Tryz.hL rfl rfl rfl ?_
  (simp only [pc42, rs42, oU, oC]; refine ev ?_; try with_reducible exact trivial)
  have hg : ∀ j, j < c.length → c[j]? = some (gt c j) := fun j hj => by
    rw [List.getElem?_eq_getElem hj]; simp [gt, List.getD_eq_getElem?_getD, hj]
  have hsg : segs c false = c.length - 1 := rfl
  unfold chkN
  rw [hsg]
  simp only [Bool.false_eq_true, if_false]
  refine ⟨fun h => by rw [if_pos (by omega)], fun h => ⟨fun h2 => by rw [if_neg (by omega), if_pos (by omega)], fun h2 => ?_⟩⟩
  rw [if_neg (by omega), if_neg (by omega)]
  refine loopF_of (fun E => ∃ i : Nat, i ≤ c.length ∧ (∀ j, j + 1 < i → gt c j ≠ gt c (j + 1)) ∧ E = [(0, chn c), (13, chn c), (14, .int .i64 c.length), (15, .int .i64 i)])
    (fun E => match lk E 15 with | .int _ i => c.length - i.toNat | _ => 0) ⟨0, by omega, fun _ h => absurd h (by omega), rfl⟩ ?_
  rintro _ ⟨i, hi, hno, rfl⟩
  simp only [evX, evY, evZ, forall_const, implies_true, initE, stepF, D.clean, mvF, moF, tkF, shF, ariF, ciF, catF, scF, ebF, eqF, eqOk, eqPr, enF, notF, ngF, cvF, csF, csbF, lenF, lenSF, ixF, iaF, PX.slot, iaAF, faF, ldF, D.mem, stF, bxF, mkSF, boundF, fldF, ixAF, mmF2, D.plain, D.isPure, optAll, D.dull, callVF, splice, D.cells, D.one, sets, resT, D.flat, D.flat0, D.simple, Nat.reduceBNe, Nat.reduceLT, reduceIte, Nat.reduceEqDiff, Nat.reduceAdd, Nat.reduceMul, Nat.reduceSub, Nat.reduceLeDiff, Int.reduceToNat, Int.reduceLT, Int.reduceLE, Int.reduceEq, Int.reduceNeg, Int.reduceSub, Int.reduceAdd, Int.reduceMul, stG_own, ldC_pts]
  refine ⟨fun h1 => ?_, fun h1 => ?_⟩
  · refine ⟨⟨by omega, by omega, by rw [pts_len]; omega⟩, _, hg i (by omega), ?_⟩
    have hz : Sz 200 (gt c i) := (hsz _ (List.mem_of_getElem? (hg i (by omega)))).more (by decide)
    have hcp := Tryz.ppoint (gt c i) hz
    generalize hx : gt c i = x at *
    simp only [pD, evX, evY, evZ, forall_const, implies_true, initE, stepF, D.clean, mvF, moF, tkF, shF, ariF, ciF, catF, scF, ebF, eqF, eqOk, eqPr, enF, notF, ngF, cvF, csF, csbF, lenF, lenSF, ixF, iaF, PX.slot, iaAF, faF, ldF, D.mem, stF, bxF, mkSF, boundF, fldF, ixAF, mmF2, D.plain, D.isPure, optAll, D.dull, callVF, splice, D.cells, D.one, sets, resT, D.flat, D.flat0, D.simple, Nat.reduceBNe, Nat.reduceLT, reduceIte, Nat.reduceEqDiff, Nat.reduceAdd, Nat.reduceMul, Nat.reduceSub, Nat.reduceLeDiff, Int.reduceToNat, Int.reduceLT, Int.reduceLE, Int.reduceEq, Int.reduceNeg, Int.reduceSub, Int.reduceAdd, Int.reduceMul, stG_own]
    refine callF_of hcp ?_
    simp only [evX, evY, evZ, forall_const, implies_true, initE, stepF, D.clean, mvF, moF, tkF, shF, ariF, ciF, catF, scF, ebF, eqF, eqOk, eqPr, enF, notF, ngF, cvF, csF, csbF, lenF, lenSF, ixF, iaF, PX.slot, iaAF, faF, ldF, D.mem, stF, bxF, mkSF, boundF, fldF, ixAF, mmF2, D.plain, D.isPure, optAll, D.dull, callVF, splice, D.cells, D.one, sets, resT, D.flat, D.flat0, D.simple, Nat.reduceBNe, Nat.reduceLT, reduceIte, Nat.reduceEqDiff, Nat.reduceAdd, Nat.reduceMul, Nat.reduceSub, Nat.reduceLeDiff, Int.reduceToNat, Int.reduceLT, Int.reduceLE, Int.reduceEq, Int.reduceNeg, Int.reduceSub, Int.reduceAdd, Int.reduceMul, stG_own, ldC_pts]
    refine ⟨fun h3 => ?_, fun h3 => ⟨⟨by omega, by omega⟩, ⟨i + 1, by omega, fun j hj => absurd hj (by omega), by simp⟩, by omega⟩⟩
    have e1 : ((i : Int) - 1).toNat = i - 1 := by omega
    refine ⟨⟨by omega, by omega⟩, ⟨by omega, by omega, by rw [pts_len]; omega⟩, gt c (i - 1), by rw [e1]; exact hg _ (by omega), eqOk_pt _ x, fun h4 => ?_, fun h4 => ⟨⟨by omega, by omega⟩, ⟨i + 1, by omega, fun j hj => ?_, by simp⟩, by omega⟩⟩
    · have h5 := (eq_pt (gt c (i - 1)) x).1 h4
      rw [if_pos (dbl_iff.2 ⟨i - 1, by omega, by rw [show (i - 1 + 1) % c.length = i by rw [Nat.mod_eq_of_lt (by omega)]; omega, hx]; exact h5⟩)]
    · by_cases e : j + 1 = i
      · intro h5
        have e2 : j = i - 1 := by omega
        rw [e, hx, e2] at h5
        exact h4 ((eq_pt _ x).2 h5)
      · exact hno j (by omega)
  · have e : i = c.length := by omega
    subst e
    have hnd : ¬dbl c (c.length - 1) = true := fun h3 => by
      obtain ⟨j, h4, h5⟩ := dbl_iff.1 h3
      rw [Nat.mod_eq_of_lt (by omega)] at h5
      exact hno j (by omega) h5
    rw [if_neg hnd]
    have e1 : (c.length : Int) - 1 = ((c.length - 1 : Nat) : Int) := by omega
    rw [e1]
    refine ⟨⟨by omega, by omega⟩, ?_⟩
    refine callF_of (Tryz.psimple c (c.length - 1) (by omega) (by omega) hsz) ?_
    (refine ev ?_; try with_reducible exact trivial)
theorem Tryz.cuClone : ∀ c, Tryz.f51.body = some c → ∀ q ∈ cusL c pc51, CusOk Tryz.prog Tryz.L q.1 q.2.1 q.2.2 := by
  intro c hc q hq
  cases Option.some.inj hc
  simp only [pc51, cusL, List.nil_append, List.append_nil, List.mem_singleton, List.cons_append] at hq
  subst hq
  exact nilT_ok rfl rfl rfl rfl rfl rfl rfl Tryz.underlying24 (by decide) (by decide) (by decide)
theorem Tryz.pclone (l : List Pt) (hl : l.length ≤ 1000) : Con Tryz.prog Tryz.L 51 [chn l] (.own true 35 l.length (pts l)) := by
  refine rule51 Tryz.hL (fun q hq => by simp [PC.backs, pc51] at hq) Tryz.cuClone rfl rfl rfl ?_
  simp only [pc51, rs51, oU, oC, nilT_f, evX, evY, evZ, forall_const, implies_true, initE, stepF, D.clean, mvF, moF, tkF, shF, ariF, ciF, catF, scF, ebF, eqF, eqOk, eqPr, enF, notF, ngF, cvF, csF, csbF, lenF, lenSF, ixF, iaF, PX.slot, iaAF, faF, ldF, D.mem, stF, bxF, mkSF, boundF, fldF, ixAF, mmF2, D.plain, D.isPure, optAll, D.dull, callVF, splice, D.cells, D.one, sets, resT, D.flat, D.flat0, D.simple, Nat.reduceBNe, Nat.reduceLT, reduceIte, Nat.reduceEqDiff, Nat.reduceAdd, Nat.reduceMul, Nat.reduceSub, Nat.reduceLeDiff, Int.reduceToNat, Int.reduceLT, Int.reduceLE, Int.reduceEq, Int.reduceNeg, Int.reduceSub, Int.reduceAdd, Int.reduceMul, stG_own]
  refine ⟨l.length, pts l, rfl, fun b hb0 => ?_⟩
  cases b
  · (refine ev ?_; try with_reducible exact trivial)
    exact ⟨pts_len _, by omega, by omega⟩
  · have : l = [] := List.eq_nil_of_length_eq_zero (hb0 rfl)
    subst this
    (refine ev ?_; try with_reducible exact trivial)
    rfl
end Go.Proofs

/-
  POLYLINE: Simplify, in the plain walk. Own work.
-/
namespace Go.Proofs
open Go Go.Pi Go.RowKit Go.Shelf Go.Ar Go.Ge

/-- at and least, as the program holds them -/
def atV : Option (Nat × Rat) → Value
  | none => .int .i64 (-1)
  | some q => .int .i64 q.1
def leV (most : Rat) : Option (Nat × Rat) → Value
  | none => .string ⟨(rt most).toArray⟩
  | some q => .string ⟨(rt q.2).toArray⟩

theorem st_cases (st : Option (Nat × Rat)) : (st = none ∧ atV st = .int .i64 (-1)) ∨ (st ≠ none ∧ ∃ j : Nat, atV st = .int .i64 (j : Int)) := by
  cases st with
  | none => exact .inl ⟨rfl, rfl⟩
  | some z => exact .inr ⟨by simp, z.1, rfl⟩
theorem st_cases2 (st : Option (Nat × Rat)) : (st = none ∧ atV st = .int .i64 (-1)) ∨ (∃ (j : Nat) (y : Rat), st = some (j, y) ∧ atV st = .int .i64 (j : Int)) := by
  cases st with
  | none => exact .inl ⟨rfl, rfl⟩
  | some z => exact .inr ⟨z.1, z.2, rfl, rfl⟩
theorem simp_none {q : Rat} {l : List Pt} {k : Nat} (hk : k + 2 = l.length) (h : pick q l k = none) : simp q l.length l = l := by
  obtain ⟨f, hf⟩ : ∃ f, l.length = f + 1 := ⟨k + 1, by omega⟩
  have e : l.length - 2 = k := by omega
  rw [hf, simp, e, h]
theorem simp_some {q : Rat} {l : List Pt} {k j : Nat} {y : Rat} (hk : k + 2 = l.length) (h : pick q l k = some (j, y)) : simp q l.length l = simp q (l.eraseIdx j).length (l.eraseIdx j) := by
  obtain ⟨f, hf⟩ : ∃ f, l.length = f + 1 := ⟨k + 1, by omega⟩
  have e : l.length - 2 = k := by omega
  obtain ⟨h1, h2, _⟩ := pick_spec h
  have e2 : (l.eraseIdx j).length = f := by rw [List.length_eraseIdx_of_lt (by omega)]; omega
  conv => lhs; rw [hf, simp, e, h]
  rw [e2]
theorem rat_tri (a b : Rat) : a < b ∨ a = b ∨ b < a := by grind
/-- the least so far -/
def lvQ (most : Rat) : Option (Nat × Rat) → Rat
  | none => most
  | some q => q.2
theorem rd_abQ (q : Rat) : rd (abQ q) = rd q := rd_abs q
theorem lv_rd {q : Rat} {l : List Pt} (hq : rd q ≤ 2500) (hs : ∀ p ∈ l, Sz 30 p) : ∀ {k : Nat}, k + 2 ≤ l.length → rd (lvQ q (pick q l k)) ≤ 2500
  | 0, _ => hq
  | k + 1, hk => by
    have ih := lv_rd hq hs (k := k) (by omega)
    have hz : ∀ j, j < l.length → Sz 300 (gt l j) := fun j hj => (hs _ (List.mem_of_getElem? (show l[j]? = some (gt l j) by rw [List.getElem?_eq_getElem hj]; simp [gt, List.getD_eq_getElem?_getD, hj]))).more (by decide)
    have h1 : rd (abQ (ar (gt l k) (gt l (k + 1)) (gt l (k + 2)))) ≤ 2500 := by rw [rd_abQ]; exact rd_ar (hz _ (by omega)) (hz _ (by omega)) (hz _ (by omega))
    unfold pick
    cases hp : pick q l k with
    | none =>
      rw [hp] at ih
      simp only
      split
      · exact h1
      · exact ih
    | some z =>
      rw [hp] at ih
      obtain ⟨j, y⟩ := z
      simp only
      split
      · exact h1
      · exact ih
/-- one point more -/
theorem pick_succ (q : Rat) (l : List Pt) (k : Nat) : pick q l (k + 1) = if (abQ (ar (gt l k) (gt l (k + 1)) (gt l (k + 2))) < lvQ q (pick q l k) ∨ (abQ (ar (gt l k) (gt l (k + 1)) (gt l (k + 2))) = lvQ q (pick q l k) ∧ pick q l k = none)) ∧ good (l.eraseIdx (k + 1)) = true then some (k + 1, abQ (ar (gt l k) (gt l (k + 1)) (gt l (k + 2)))) else pick q l k := by
  conv => lhs; unfold pick
  generalize abQ (ar (gt l k) (gt l (k + 1)) (gt l (k + 2))) = x
  cases hp : pick q l k with
  | none =>
    simp only [lvQ, and_true]
    by_cases h : x ≤ q
    · have : x < q ∨ x = q := Rat.le_iff_lt_or_eq.1 h
      simp [h, this]
    · have : ¬(x < q ∨ x = q) := fun h' => h (Rat.le_iff_lt_or_eq.2 h')
      simp [h, this]
  | some z =>
    obtain ⟨j, y⟩ := z
    simp [lvQ]
set_option maxRecDepth 100000 in
set_option maxHeartbeats 4000000 in
theorem Tryz.psimplify (c : List Pt) (q : Rat) (hc : c.length ≤ 8) (hsz : ∀ p ∈ c, Sz 30 p) (hq : rd q ≤ 100) (h0 : 0 ≤ q) (hg : good c = true) : Con Tryz.prog Tryz.L 16 [chn c, .str (rt q)] (.tup [chn (simp q c.length c), .int .i64 0]) := by
  have mixed : Tryz.prog.follows .mixedOrders = true := by kernel_rfl
  have t0 := Tryz.underlying24; have a0 := Tryz.isAgg24; have z0 := Tryz.sizeOf24; have v0 := Tryz.zeroValue24; have u0 := run_underlying Tryz.underlying24
  have t1 := Tryz.underlying35; have a1 := Tryz.isAgg35; have z1 := Tryz.sizeOf35; have v1 := Tryz.zeroValue35; have u1 := run_underlying Tryz.underlying35
  have t3 := Tryz.underlying4; have a3 := Tryz.isAgg4; have z3 := Tryz.sizeOf4; have v3 := Tryz.zeroValue4; have u3 := run_underlying Tryz.underlying4
  have t4 := Tryz.underlying3; have a4 := Tryz.isAgg3; have z4 := Tryz.sizeOf3; have v4 := Tryz.zeroValue3; have u4 := run_underlying Tryz.underlying3
  have t5 := Tryz.underlying26; have a5 := Tryz.isAgg26; have z5 := Tryz.sizeOf26; have v5 := Tryz.zeroValue26; have u5 := run_underlying Tryz.underlying26
  have t6 := Tryz.underlying33; have a6 := Tryz.isAgg33; have z6 := Tryz.sizeOf33; have v6 := Tryz.zeroValue33; have u6 := run_underlying Tryz.underlying33
  have hlq := rt_len q
  refine ⟨⟨by kernel_rfl, rfl⟩, fun S W vs hS hL hrep => ?_⟩
  obtain ⟨vc, r1, rfl, hrc, t1'⟩ := hrep.uncons
  obtain ⟨vq, r2, rfl, hrq, t2'⟩ := t1'.uncons
  have e2 := hrq.str_inv.1
  subst e2
  obtain rfl : r2 = [] := List.length_eq_zero_iff.1 t2'.1.symm
  clear t1' t2' hrep
  have hgood : chkN c false = 0 := by simpa [good] using hg
  have hC0 := (Tryz.pcheckL c (by omega) hsz).2 S W [vc] hS hL (Reps.cons hrc .nil)
  rw [hgood] at hC0
  show Calls _ _ #[vc, .string ⟨(rt q).toArray⟩] _ _
  go_enter Tryz.func16, Tryz.ntmps16
  go_wp2_with (go_at_call 42; refine Calls.mono hC0 ?_; rintro e W1 ⟨v1, rfl, hb1, hr1⟩; obtain rfl : v1 = .int .i64 0 := (by cases hr1; rfl); clear hr1)
  have b01 := hb1
  refine Calls.mono ((Tryz.rcheckQ q (by omega)).2 (fun _ _ => False) W1 [.string ⟨(rt q).toArray⟩] (fun _ _ h => h.elim) (Tryz.hL W W1 hL b01) (Reps.cons (.str _ (by unfold maxLen; omega)) .nil)) ?_
  rintro e W2 ⟨v2, rfl, hb2, hr2⟩
  obtain rfl : v2 = .int .i64 0 := (by cases hr2; rfl)
  clear hr2
  have b02 := b01.trans (hb2.mono b01.size)
  have hnn : ¬q.num < 0 := by have := Rat.num_nonneg.2 h0; omega
  have hsg : decide (q.num < 0) = false := decide_eq_false hnn
  go_wp2_with (go_at_call 18; refine Calls.mono ((Tryz.rsign q (by omega)).2 (fun _ _ => False) W2 [.string ⟨(rt q).toArray⟩] (fun _ _ h => h.elim) (Tryz.hL W W2 hL b02) (Reps.cons (.str _ (by unfold maxLen; omega)) .nil)) ?_; rintro e W3 ⟨v3, rfl, hb3, hr3⟩; obtain rfl : v3 = .int .i64 q.num.sign := (by cases hr3; rfl); clear hr3; have b03 := b02.trans (hb3.mono b02.size))
  have hm3 : ∀ W' : World, Below W.heap.size W W' → Rep S W' (chn c) vc := fun W' h => hrc.mono (fun _ _ z => z) (fun b o z => h.cell (p := ⟨b, o, none⟩) (hS b o z))
  refine Calls.mono ((Tryz.pclone c (by omega)).2 S W3 [vc] (fun b j h => Nat.lt_of_lt_of_le (hS b j h) b03.size) (Tryz.hL W W3 hL b03) (Reps.cons (hm3 W3 b03) .nil)) ?_
  rintro e W4 ⟨v4, rfl, hb4, hr4⟩
  have b04 := b03.trans (hb4.mono b03.size)
  have ho4 := own_base (own_of_res (f := fun p : Pt => rt p.1) (g := fun p : Pt => rt p.2) (by kernel_rfl) hr4) b03.size
  clear hr4 hC0 hb1 hb2 hb3 hb4 b01 b02 b03 hm3 hrc hgood hsg hnn
  go_wp2
  have HS : Hid (∀ p ∈ c, Sz 30 p) := hsz
  have HG : Hid (good c = true) := hg
  clear hsz hg
  go_loopg [7] c.length (fun gg s7 wr => ∃ l : List Pt, l.length ≤ gg ∧ l.length ≤ 8 ∧ Hid ((∀ p ∈ l, Sz 30 p) ∧ good l = true ∧ simp q l.length l = simp q c.length c) ∧ wr.ownsRow W.heap.size 35 2 s7 l.length (pce l) ∧ Below W.heap.size W wr)
  case atStart => exact ⟨c, Nat.le_refl _, hc, ⟨HS.out, HG.out, rfl⟩, ho4, b04⟩
  case round =>
    clear ho4 b04 HS HG
    obtain ⟨l, hlg, hl8, HF, hown, hbw⟩ := hrel
    have hl2 : 2 ≤ l.length := by
      have := HF.out.2.1
      unfold good chkN at this
      rw [decide_eq_true_eq] at this
      by_cases h : l.length < 2
      · rw [if_pos (by simpa using h)] at this; exact absurd this (by decide)
      · omega
    obtain ⟨g, cap, rfl, hg1, hg2⟩ := hown.form (by omega)
    go_wp2
    go_loopg [8, 9, 10] l.length (fun g2 s8 s9 s10 wr2 => ∃ k : Nat, s10 = .int .i64 ((k + 1 : Nat) : Int) ∧ k + 2 ≤ l.length ∧ l.length ≤ g2 + k + 2 ∧ s8 = atV (pick q l k) ∧ s9 = leV q (pick q l k) ∧ wr2.ownsRow W.heap.size 35 2 (.slice (some ⟨g, 0, none⟩) l.length cap) l.length (pce l) ∧ Below W.heap.size W wr2)
    case atStart => exact ⟨0, rfl, by omega, by omega, rfl, rfl, hown, hbw⟩
    case round =>
      clear hown hbw
      obtain ⟨k, rfl, hk, hgk, rfl, rfl, hwn, hbn⟩ := hrel
      have hlv : rd (lvQ q (pick q l k)) ≤ 2500 := lv_rd (by omega) HF.out.1 (by omega)
      have hle : leV q (pick q l k) = .string ⟨(rt (lvQ q (pick q l k))).toArray⟩ := by cases pick q l k <;> rfl
      rw [hle]
      by_cases hlt : k + 2 < l.length
      · have hx : ∀ j, j < l.length → l[j]? = some (gt l j) := fun j hj => by rw [List.getElem?_eq_getElem hj]; simp [gt, List.getD_eq_getElem?_getD, hj]
        have hz : ∀ j, j < l.length → Sz 300 (gt l j) := fun j hj => (HF.out.1 _ (List.mem_of_getElem? (hx j hj))).more (by decide)
        obtain ⟨ca, ca'⟩ := cel2_at (fun p : Pt => rt p.1) (fun p : Pt => rt p.2) (hx k (by omega))
        obtain ⟨cb, cb'⟩ := cel2_at (fun p : Pt => rt p.1) (fun p : Pt => rt p.2) (hx (k + 1) (by omega))
        obtain ⟨cc, cc'⟩ := cel2_at (fun p : Pt => rt p.1) (fun p : Pt => rt p.2) (hx (k + 2) (by omega))
        have za := hz k (by omega)
        have zb := hz (k + 1) (by omega)
        have zc := hz (k + 2) (by omega)
        have hxa := rd_ar za zb zc
        have hpk := pick_succ q l k
        clear hx hz
        generalize gt l k = A at *
        generalize gt l (k + 1) = B at *
        generalize gt l (k + 2) = C at *
        rw [← hwn.drew.cellAt (k * 2) (by omega)] at ca
        rw [← hwn.drew.cellAt (k * 2 + 1) (by omega)] at ca'
        rw [← hwn.drew.cellAt ((k + 1) * 2) (by omega)] at cb
        rw [← hwn.drew.cellAt ((k + 1) * 2 + 1) (by omega)] at cb'
        rw [← hwn.drew.cellAt ((k + 2) * 2) (by omega)] at cc
        rw [← hwn.drew.cellAt ((k + 2) * 2 + 1) (by omega)] at cc'
        have i0 : (0 : Int) ≤ (k : Int) := Int.natCast_nonneg _
        have i1 : (k : Int) < (l.length : Int) := by omega
        have i2 : (k : Int) + 1 < (l.length : Int) := by omega
        have i3 : (k : Int) + 1 + 1 < (l.length : Int) := by omega
        have i4 : (0 : Int) ≤ (k : Int) + 1 := by omega
        have i5 : (0 : Int) ≤ (k : Int) + 1 + 1 := by omega
        have i6 : ((k : Int) + 1).toNat = k + 1 := by omega
        have i7 : ((k : Int) + 1 + 1).toNat = k + 2 := by omega
        have w1 : IntKind.i64.wrap (k : Int) = (k : Int) := by rw [IntKind.wrap_i64]; omega
        have w2 : IntKind.i64.wrap ((k : Int) + 1 + 1) = (k : Int) + 1 + 1 := by rw [IntKind.wrap_i64]; omega
        have w3 : IntKind.i64.wrap ((k : Int) + 1 - 1) = (k : Int) := by rw [IntKind.wrap_i64]; omega
        have e0 : (k : Int) + 1 - 1 = (k : Int) := by omega
        go_wp2_with fail
        have hbd : Below W.heap.size W wr.drew := hbn.grown (gr_drew (gr_self wr (r := none))) hbn.size (fun k hk => by cases hk)
        have hwd := hwn.drew
        have hla := rt_len A.1; have hla' := rt_len A.2; have hlb := rt_len B.1; have hlb' := rt_len B.2; have hlc := rt_len C.1; have hlc' := rt_len C.2
        obtain ⟨za1, za2⟩ := za; obtain ⟨zb1, zb2⟩ := zb; obtain ⟨zc1, zc2⟩ := zc
        have hA := (Tryz.parea A B C ⟨za1, za2⟩ ⟨zb1, zb2⟩ ⟨zc1, zc2⟩).2 (fun _ _ => False) wr.drew [.agg #[.string ⟨(rt A.1).toArray⟩, .string ⟨(rt A.2).toArray⟩], .agg #[.string ⟨(rt B.1).toArray⟩, .string ⟨(rt B.2).toArray⟩], .agg #[.string ⟨(rt C.1).toArray⟩, .string ⟨(rt C.2).toArray⟩]] (fun _ _ h => h.elim) (Tryz.hL W _ hL hbd)
          (Reps.cons (rep_pair _ _ _ _ (by unfold maxLen; omega) (by unfold maxLen; omega)) (Reps.cons (rep_pair _ _ _ _ (by unfold maxLen; omega) (by unfold maxLen; omega)) (Reps.cons (rep_pair _ _ _ _ (by unfold maxLen; omega) (by unfold maxLen; omega)) .nil)))
        generalize ar A B C = z at *
        have hlz := rt_len z
        have HD : Hid (wr.drew.ownsRow W.heap.size 35 2 (.slice (some ⟨g, 0, none⟩) l.length cap) l.length (pce l) ∧ Below W.heap.size W wr.drew) := ⟨hwd, hbd⟩
        clear hla hla' hlb hlb' hlc hlc' za1 za2 zb1 zb2 zc1 zc2 hwn hbn hwd hbd
        go_region_held3 (fun w' => w'.cell? ⟨g, k * 2, none⟩ = some (.string ⟨(rt A.1).toArray⟩) ∧ w'.cell? ⟨g, k * 2 + 1, none⟩ = some (.string ⟨(rt A.2).toArray⟩) ∧ w'.cell? ⟨g, (k + 1) * 2, none⟩ = some (.string ⟨(rt B.1).toArray⟩) ∧ w'.cell? ⟨g, (k + 1) * 2 + 1, none⟩ = some (.string ⟨(rt B.2).toArray⟩) ∧ w'.cell? ⟨g, (k + 2) * 2, none⟩ = some (.string ⟨(rt C.1).toArray⟩) ∧ w'.cell? ⟨g, (k + 2) * 2 + 1, none⟩ = some (.string ⟨(rt C.2).toArray⟩)) (go_keep)
          (first
            | (go_at_call 52; refine Calls.mono hA ?_; rintro e W5 ⟨v5, rfl, hb5, hr5⟩; obtain rfl : v5 = .string ⟨(rt z).toArray⟩ := (by cases hr5; rfl); clear hr5; have b5 := HD.out.2.trans (hb5.mono HD.out.2.size); have o5 := HD.out.1.kept (gr_below (r := none) hb5) (.inr (by simp [Value.ownBlock])); have hgl := (HD.out.1.lt g rfl).2; have d1 := (hb5.cell (p := ⟨g, k * 2, none⟩) hgl).trans ca; have d2 := (hb5.cell (p := ⟨g, k * 2 + 1, none⟩) hgl).trans ca'; have d3 := (hb5.cell (p := ⟨g, (k + 1) * 2, none⟩) hgl).trans cb; have d4 := (hb5.cell (p := ⟨g, (k + 1) * 2 + 1, none⟩) hgl).trans cb'; have d5 := (hb5.cell (p := ⟨g, (k + 2) * 2, none⟩) hgl).trans cc; have d6 := (hb5.cell (p := ⟨g, (k + 2) * 2 + 1, none⟩) hgl).trans cc'; clear hb5 hgl)
            | (go_at_call 19; refine Calls.mono ((Tryz.rabs z (by omega)).2 (fun _ _ => False) _ [.string ⟨(rt z).toArray⟩] (fun _ _ h => h.elim) (Tryz.hL W _ hL b5) (Reps.cons (.str _ (by unfold maxLen; omega)) .nil)) ?_; rintro e W6 ⟨v6, rfl, hb6, hr6⟩; obtain rfl : v6 = .string ⟨(rt (absQ z)).toArray⟩ := (by cases hr6; rfl); clear hr6; have b6 := b5.trans (hb6.mono b5.size); have o6 := o5.kept (gr_below (r := none) hb6) (.inr (by simp [Value.ownBlock])); have hgm := (o5.lt g rfl).2; have f1 := (hb6.cell (p := ⟨g, k * 2, none⟩) hgm).trans d1; have f2 := (hb6.cell (p := ⟨g, k * 2 + 1, none⟩) hgm).trans d2; have f3 := (hb6.cell (p := ⟨g, (k + 1) * 2, none⟩) hgm).trans d3; have f4 := (hb6.cell (p := ⟨g, (k + 1) * 2 + 1, none⟩) hgm).trans d4; have f5 := (hb6.cell (p := ⟨g, (k + 2) * 2, none⟩) hgm).trans d5; have f6 := (hb6.cell (p := ⟨g, (k + 2) * 2 + 1, none⟩) hgm).trans d6; clear hb6 hgm))
        have hla : rd (absQ z) ≤ 2500 := by rw [rd_abs]; omega
        have hC7 := (Tryz.rcompare (absQ z) (lvQ q (pick q l k)) (by omega) (by omega)).2 (fun _ _ => False) W6 [.string ⟨(rt (absQ z)).toArray⟩, .string ⟨(rt (lvQ q (pick q l k))).toArray⟩] (fun _ _ h => h.elim) (Tryz.hL W _ hL b6) (Reps.cons (.str _ (by have := rt_len (absQ z); unfold maxLen; omega)) (Reps.cons (.str _ (by have := rt_len (lvQ q (pick q l k)); unfold maxLen; omega)) .nil))
        rw [show abQ z = absQ z from rfl] at hpk
        have HB : Hid (∀ m : List Pt, (∀ p ∈ m, p ∈ l) → ∀ y ∈ m, (rt y.1).length ≤ maxLen ∧ (rt y.2).length ≤ maxLen) := fun m hm y hy => by
          obtain ⟨h1, h2⟩ := HF.out.1 y (hm y hy)
          have l1 := rt_len y.1; have l2 := rt_len y.2
          exact ⟨by unfold maxLen; omega, by unfold maxLen; omega⟩
        generalize hst : pick q l k = st at *
        have HPK : Hid (pick q l (k + 1) = if (absQ z < lvQ q st ∨ absQ z = lvQ q st ∧ st = none) ∧ good (l.eraseIdx (k + 1)) = true then some (k + 1, absQ z) else st) := hpk
        clear hpk f1 f2 f3 f4 f5 f6 d1 d2 d3 d4 d5 d6 ca ca' cb cb' cc cc' hA b5 o5 HD hst hlz hxa
        rcases rat_tri (absQ z) (lvQ q st) with hc | hc | hc
        · have ec : cmpQ (absQ z) (lvQ q st) = -1 := by unfold cmpQ; rw [if_pos hc]
          rw [ec] at hC7
          go_wp2_with (go_at_call 21; refine Calls.mono hC7 ?_; rintro e W7 ⟨v7, rfl, hb7, hr7⟩; obtain rfl : v7 = .int .i64 (-1) := (by cases hr7; rfl); clear hr7; have b7 := b6.trans (hb7.mono b6.size); have o7 := o6.kept (gr_below (r := none) hb7) (.inr (by simp [Value.ownBlock])); clear hb7)
          refine Calls.mono ((Tryz.pclone l (by omega)).2 (fun b _ => b < W7.heap.size) W7 [.slice (some ⟨g, 0, none⟩) l.length cap] (fun _ _ h => h) (Tryz.hL W _ hL b7) (Reps.cons (rep_own2 o7 (HB.out l (fun _ h => h)) (fun _ _ _ h => h)) .nil)) ?_
          rintro e W8 ⟨v8, rfl, hb8, hr8⟩
          have o8 := own_of_res (f := fun p : Pt => rt p.1) (g := fun p : Pt => rt p.2) (by kernel_rfl) hr8
          have hdel := Tryz.pdelete W7 W8 v8 l (k + 1) (Tryz.hL W _ hL b7) hb8 o8 (by omega) (by omega)
          rw [show ((k + 1 : Nat) : Int) = (k : Int) + 1 by omega, show ((k + 1 + 1 : Nat) : Int) = (k : Int) + 1 + 1 by omega] at hdel
          clear hr8
          go_wp2_with (go_at_call 53; refine Calls.mono hdel ?_; rintro e W9 ⟨v9, rfl, o9, hg9, hb9⟩; have b9 := b7.trans (hb9.mono b7.size))
          refine Calls.mono ((Tryz.pcheckL (l.eraseIdx (k + 1)) (by have := List.length_eraseIdx_le l (k + 1); omega) (fun p hp => HF.out.1 p (List.mem_of_mem_eraseIdx hp))).2 (fun b _ => b < W9.heap.size) W9 [v9] (fun _ _ h => h) (Tryz.hL W _ hL b9) (Reps.cons (rep_own2 o9 (HB.out _ (fun _ h => List.mem_of_mem_eraseIdx h)) (fun _ _ _ h => h)) .nil)) ?_
          rintro e W10 ⟨v10, rfl, hb10, hr10⟩
          obtain rfl : v10 = .int .i64 (chkN (l.eraseIdx (k + 1)) false) := (by cases hr10; rfl)
          have b10 := b9.trans (hb10.mono b9.size)
          have o10 := o7.kept (gr_below (r := none) (hb9.trans (hb10.mono hb9.size))) (.inr (by simp [Value.ownBlock]))
          clear hr10 hb10 hb9 hg9 hb8 o8 o9 hdel
          cases hgd : good (l.eraseIdx (k + 1)) with
          | true =>
            have hn : chkN (l.eraseIdx (k + 1)) false = 0 := by unfold good at hgd; exact of_decide_eq_true hgd
            rw [hn]
            go_wp2
            go_roundg (l.length - (k + 3))
            case measure => omega
            case rel =>
              have hp1 : pick q l (k + 1) = some (k + 1, absQ z) := by rw [HPK.out, if_pos ⟨.inl hc, hgd⟩]
              exact ⟨k + 1, by go_num, by omega, by omega, by rw [hp1]; simp [atV], by rw [hp1]; rfl, o10, b10⟩
          | false =>
            have hn : ¬chkN (l.eraseIdx (k + 1)) false = 0 := fun h => by unfold good at hgd; rw [h] at hgd; cases hgd
            generalize chkN (l.eraseIdx (k + 1)) false = n at hn ⊢
            go_wp2
            go_roundg (l.length - (k + 3))
            case measure => omega
            case rel =>
              have hp1 : pick q l (k + 1) = st := by rw [HPK.out, if_neg (fun h => by rw [hgd] at h; cases h.2)]
              exact ⟨k + 1, by go_num, by omega, by omega, by rw [hp1], by rw [hp1]; exact hle.symm, o10, b10⟩
        · have ec : cmpQ (absQ z) (lvQ q st) = 0 := by rw [hc]; exact cmpQ_self _
          rw [ec] at hC7
          have HC : Hid (absQ z = lvQ q st) := hc
          clear hc
          rcases st_cases st with ⟨hs0, hat⟩ | ⟨hs0, j, hat⟩
          · rw [hat]
            have HS0 : Hid (st = none) := hs0
            clear hs0
            go_wp2_with (go_at_call 21; refine Calls.mono hC7 ?_; rintro e W7 ⟨v7, rfl, hb7, hr7⟩; obtain rfl : v7 = .int .i64 (0) := (by cases hr7; rfl); clear hr7; have b7 := b6.trans (hb7.mono b6.size); have o7 := o6.kept (gr_below (r := none) hb7) (.inr (by simp [Value.ownBlock])); clear hb7)
            refine Calls.mono ((Tryz.pclone l (by omega)).2 (fun b _ => b < W7.heap.size) W7 [.slice (some ⟨g, 0, none⟩) l.length cap] (fun _ _ h => h) (Tryz.hL W _ hL b7) (Reps.cons (rep_own2 o7 (HB.out l (fun _ h => h)) (fun _ _ _ h => h)) .nil)) ?_
            rintro e W8 ⟨v8, rfl, hb8, hr8⟩
            have o8 := own_of_res (f := fun p : Pt => rt p.1) (g := fun p : Pt => rt p.2) (by kernel_rfl) hr8
            have hdel := Tryz.pdelete W7 W8 v8 l (k + 1) (Tryz.hL W _ hL b7) hb8 o8 (by omega) (by omega)
            rw [show ((k + 1 : Nat) : Int) = (k : Int) + 1 by omega, show ((k + 1 + 1 : Nat) : Int) = (k : Int) + 1 + 1 by omega] at hdel
            clear hr8
            go_wp2_with (go_at_call 53; refine Calls.mono hdel ?_; rintro e W9 ⟨v9, rfl, o9, hg9, hb9⟩; have b9 := b7.trans (hb9.mono b7.size))
            refine Calls.mono ((Tryz.pcheckL (l.eraseIdx (k + 1)) (by have := List.length_eraseIdx_le l (k + 1); omega) (fun p hp => HF.out.1 p (List.mem_of_mem_eraseIdx hp))).2 (fun b _ => b < W9.heap.size) W9 [v9] (fun _ _ h => h) (Tryz.hL W _ hL b9) (Reps.cons (rep_own2 o9 (HB.out _ (fun _ h => List.mem_of_mem_eraseIdx h)) (fun _ _ _ h => h)) .nil)) ?_
            rintro e W10 ⟨v10, rfl, hb10, hr10⟩
            obtain rfl : v10 = .int .i64 (chkN (l.eraseIdx (k + 1)) false) := (by cases hr10; rfl)
            have b10 := b9.trans (hb10.mono b9.size)
            have o10 := o7.kept (gr_below (r := none) (hb9.trans (hb10.mono hb9.size))) (.inr (by simp [Value.ownBlock]))
            clear hr10 hb10 hb9 hg9 hb8 o8 o9 hdel
            cases hgd : good (l.eraseIdx (k + 1)) with
            | true =>
              have hn : chkN (l.eraseIdx (k + 1)) false = 0 := by unfold good at hgd; exact of_decide_eq_true hgd
              rw [hn]
              go_wp2
              go_roundg (l.length - (k + 3))
              case measure => omega
              case rel =>
                have hp1 : pick q l (k + 1) = some (k + 1, absQ z) := by rw [HPK.out, if_pos ⟨.inr ⟨HC.out, HS0.out⟩, hgd⟩]
                exact ⟨k + 1, by go_num, by omega, by omega, by rw [hp1]; simp [atV], by rw [hp1]; rfl, o10, b10⟩
            | false =>
              have hn : ¬chkN (l.eraseIdx (k + 1)) false = 0 := fun h => by unfold good at hgd; rw [h] at hgd; cases hgd
              generalize chkN (l.eraseIdx (k + 1)) false = n at hn ⊢
              go_wp2
              go_roundg (l.length - (k + 3))
              case measure => omega
              case rel =>
                have hp1 : pick q l (k + 1) = st := by rw [HPK.out, if_neg (fun h => by rw [hgd] at h; cases h.2)]
                exact ⟨k + 1, by go_num, by omega, by omega, by rw [hp1, hat], by rw [hp1]; exact hle.symm, o10, b10⟩
          · have hj0 : (0 : Int) ≤ (j : Int) := Int.natCast_nonneg _
            rw [hat]
            go_wp2_with (go_at_call 21; refine Calls.mono hC7 ?_; rintro e W7 ⟨v7, rfl, hb7, hr7⟩; obtain rfl : v7 = .int .i64 (0) := (by cases hr7; rfl); clear hr7; have b7 := b6.trans (hb7.mono b6.size); have o7 := o6.kept (gr_below (r := none) hb7) (.inr (by simp [Value.ownBlock])); clear hb7)
            go_roundg (l.length - (k + 3))
            case measure => omega
            case rel =>
              have hp1 : pick q l (k + 1) = st := by rw [HPK.out, if_neg (fun h => by rcases h.1 with h | h; exact absurd HC.out (by grind); exact hs0 h.2)]
              exact ⟨k + 1, by go_num, by omega, by omega, by rw [hp1, hat], by rw [hp1]; exact hle.symm, o7, b7⟩
        · have ec : cmpQ (absQ z) (lvQ q st) = 1 := by unfold cmpQ; rw [if_neg (by grind), if_pos hc]
          rw [ec] at hC7
          go_wp2_with (go_at_call 21; refine Calls.mono hC7 ?_; rintro e W7 ⟨v7, rfl, hb7, hr7⟩; obtain rfl : v7 = .int .i64 (1) := (by cases hr7; rfl); clear hr7; have b7 := b6.trans (hb7.mono b6.size); have o7 := o6.kept (gr_below (r := none) hb7) (.inr (by simp [Value.ownBlock])); clear hb7)
          go_roundg (l.length - (k + 3))
          case measure => omega
          case rel =>
            have hp1 : pick q l (k + 1) = st := by rw [HPK.out, if_neg (fun h => by rcases h.1 with h | h; exact absurd hc (by grind); exact absurd hc (by grind))]
            exact ⟨k + 1, by go_num, by omega, by omega, by rw [hp1], by rw [hp1]; exact hle.symm, o7, b7⟩
      · have hk2 : k + 2 = l.length := by omega
        have HK : Hid (k + 2 = l.length) := hk2
        have i3 : ¬((k : Int) + 1 + 1 < (l.length : Int)) := by omega
        have w2 : IntKind.i64.wrap ((k : Int) + 1 + 1) = (k : Int) + 1 + 1 := by rw [IntKind.wrap_i64]; omega
        have HB : Hid (∀ m : List Pt, (∀ p ∈ m, p ∈ l) → ∀ y ∈ m, (rt y.1).length ≤ maxLen ∧ (rt y.2).length ≤ maxLen) := fun m hm y hy => by
          obtain ⟨h1, h2⟩ := HF.out.1 y (hm y hy)
          have l1 := rt_len y.1; have l2 := rt_len y.2
          exact ⟨by unfold maxLen; omega, by unfold maxLen; omega⟩
        clear hk2 hk hgk hlt
        rcases st_cases2 (pick q l k) with ⟨hs0, hat⟩ | ⟨j, y, hs0, hat⟩
        · rw [hat]
          have HP : Hid (pick q l k = none) := hs0
          clear hs0 hat hle
          go_wp2
          go_ret2
          refine ⟨.tuple #[.slice (some ⟨g, 0, none⟩) l.length cap, .int .i64 0], by simp, hbn, ?_⟩
          rw [← HF.out.2.2, simp_none HK.out HP.out]
          refine Rep.tup [chn l, .int .i64 0] [.slice (some ⟨g, 0, none⟩) l.length cap, .int .i64 0] rfl fun i d v hd hv => ?_
          match i with
          | 0 =>
            cases hd; cases hv
            exact rep_own2 hwn (HB.out l (fun _ h => h)) (fun b _ h1 h2 => .inr ⟨h1, h2⟩)
          | 1 => cases hd; cases hv; exact .int _ _
          | i + 2 => simp at hd
        · rw [hat]
          obtain ⟨j1, j2, j3, j4⟩ := pick_spec hs0
          have hkk := HK.out
          have hdel := Tryz.pdelete W wr _ l j hL hbn hwn (by omega) (by omega)
          rw [show ((j + 1 : Nat) : Int) = (j : Int) + 1 by omega] at hdel
          have hj0 : ¬((j : Int) < 0) := by omega
          have w4 : IntKind.i64.wrap ((j : Int) + 1) = (j : Int) + 1 := by rw [IntKind.wrap_i64]; omega
          have HP : Hid (pick q l k = some (j, y)) := hs0
          clear hs0 hat hle hkk j1 j2 j3
          go_wp2_with (go_at_call 53; refine Calls.mono hdel ?_; rintro e W9 ⟨v9, rfl, o9, hg9, hb9⟩)
          go_roundg (l.length - 1)
          case measure => have := HK.out; omega
          case rel =>
            obtain ⟨j1, j2, j3, _⟩ := pick_spec HP.out
            have hkk := HK.out
            have e2 : (l.eraseIdx j).length = l.length - 1 := List.length_eraseIdx_of_lt (by omega)
            exact ⟨l.eraseIdx j, by omega, by omega, ⟨fun p hp => HF.out.1 p (List.mem_of_mem_eraseIdx hp), j4, by rw [← simp_some HK.out HP.out]; exact HF.out.2.2⟩, o9, hb9⟩
end Go.Proofs

/-
  POLYLINE: Ring, total, Area. Own work.
-/
namespace Go.Proofs
open Go Go.Pi Go.RowKit Go.Ar Go.Ge

theorem ringprev {n i : Nat} (hi : i < n) : (i + n - 1) % n < n ∧ ((i + n - 1) % n + 1) % n = i := by
  have h0 : 0 < n := by omega
  refine ⟨Nat.mod_lt _ h0, ?_⟩
  by_cases h : i = 0
  · subst h
    rw [show 0 + n - 1 = n - 1 by omega, Nat.mod_eq_of_lt (show n - 1 < n by omega), show n - 1 + 1 = n by omega, Nat.mod_self]
  · rw [show i + n - 1 = (i - 1) + n by omega, Nat.add_mod_right, Nat.mod_eq_of_lt (show i - 1 < n by omega), show i - 1 + 1 = i by omega, Nat.mod_eq_of_lt hi]
theorem ringnext {n j : Nat} (hj : j < n) : (j + 1) % n < n ∧ ((j + 1) % n + n - 1) % n = j := by
  have h0 : 0 < n := by omega
  refine ⟨Nat.mod_lt _ h0, ?_⟩
  by_cases h : j + 1 = n
  · rw [h, Nat.mod_self, show 0 + n - 1 = j by omega, Nat.mod_eq_of_lt hj]
  · rw [Nat.mod_eq_of_lt (show j + 1 < n by omega), show j + 1 + n - 1 = j + n by omega, Nat.add_mod_right, Nat.mod_eq_of_lt hj]
set_option maxRecDepth 100000 in
set_option maxHeartbeats 4000000 in
theorem Tryz.pringL (c : List Pt) (hlen : c.length ≤ 1000) (hsz : ∀ p ∈ c, Sz 30 p) : Con Tryz.prog Tryz.L 38 [chn c] (.int .i64 (chkN c true)) := by
  refine rule38 Tryz.hL rfl rfl rfl ?_
  (simp only [pc38, rs38, oU, oC]; refine ev ?_; try with_reducible exact trivial)
  have hg : ∀ j, j < c.length → c[j]? = some (gt c j) := fun j hj => by
    rw [List.getElem?_eq_getElem hj]; simp [gt, List.getD_eq_getElem?_getD, hj]
  have hsg : segs c true = c.length := rfl
  unfold chkN
  rw [hsg]
  simp only [if_true]
  refine ⟨fun h => by rw [if_pos (by omega)], fun h => ⟨fun h2 => by rw [if_neg (by omega), if_pos (by omega)], fun h2 => ?_⟩⟩
  rw [if_neg (by omega), if_neg (by omega)]
  refine loopF_of (fun E => ∃ i : Nat, i ≤ c.length ∧ (∀ j, j < i → gt c ((j + c.length - 1) % c.length) ≠ gt c j) ∧ E = [(0, chn c), (13, chn c), (14, .int .i64 c.length), (15, .int .i64 i)])
    (fun E => match lk E 15 with | .int _ i => c.length - i.toNat | _ => 0) ⟨0, by omega, fun _ h => absurd h (by omega), rfl⟩ ?_
  rintro _ ⟨i, hi, hno, rfl⟩
  simp only [evX, evY, evZ, forall_const, implies_true, initE, stepF, D.clean, mvF, moF, tkF, shF, ariF, ciF, catF, scF, ebF, eqF, eqOk, eqPr, enF, notF, ngF, cvF, csF, csbF, lenF, lenSF, ixF, iaF, PX.slot, iaAF, faF, ldF, D.mem, stF, bxF, mkSF, boundF, fldF, ixAF, mmF2, D.plain, D.isPure, optAll, D.dull, callVF, splice, D.cells, D.one, sets, resT, D.flat, D.flat0, D.simple, Nat.reduceBNe, Nat.reduceLT, reduceIte, Nat.reduceEqDiff, Nat.reduceAdd, Nat.reduceMul, Nat.reduceSub, Nat.reduceLeDiff, Int.reduceToNat, Int.reduceLT, Int.reduceLE, Int.reduceEq, Int.reduceNeg, Int.reduceSub, Int.reduceAdd, Int.reduceMul, stG_own, ldC_pts]
  refine ⟨fun h1 => ?_, fun h1 => ?_⟩
  · refine ⟨⟨by omega, by omega, by rw [pts_len]; omega⟩, _, hg i (by omega), ?_⟩
    have hz : Sz 200 (gt c i) := (hsz _ (List.mem_of_getElem? (hg i (by omega)))).more (by decide)
    have hcp := Tryz.ppoint (gt c i) hz
    generalize hx : gt c i = x at *
    simp only [pD, evX, evY, evZ, forall_const, implies_true, initE, stepF, D.clean, mvF, moF, tkF, shF, ariF, ciF, catF, scF, ebF, eqF, eqOk, eqPr, enF, notF, ngF, cvF, csF, csbF, lenF, lenSF, ixF, iaF, PX.slot, iaAF, faF, ldF, D.mem, stF, bxF, mkSF, boundF, fldF, ixAF, mmF2, D.plain, D.isPure, optAll, D.dull, callVF, splice, D.cells, D.one, sets, resT, D.flat, D.flat0, D.simple, Nat.reduceBNe, Nat.reduceLT, reduceIte, Nat.reduceEqDiff, Nat.reduceAdd, Nat.reduceMul, Nat.reduceSub, Nat.reduceLeDiff, Int.reduceToNat, Int.reduceLT, Int.reduceLE, Int.reduceEq, Int.reduceNeg, Int.reduceSub, Int.reduceAdd, Int.reduceMul, stG_own]
    refine callF_of hcp ?_
    simp only [evX, evY, evZ, forall_const, implies_true, initE, stepF, D.clean, mvF, moF, tkF, shF, ariF, ciF, catF, scF, ebF, eqF, eqOk, eqPr, enF, notF, ngF, cvF, csF, csbF, lenF, lenSF, ixF, iaF, PX.slot, iaAF, faF, ldF, D.mem, stF, bxF, mkSF, boundF, fldF, ixAF, mmF2, D.plain, D.isPure, optAll, D.dull, callVF, splice, D.cells, D.one, sets, resT, D.flat, D.flat0, D.simple, Nat.reduceBNe, Nat.reduceLT, reduceIte, Nat.reduceEqDiff, Nat.reduceAdd, Nat.reduceMul, Nat.reduceSub, Nat.reduceLeDiff, Int.reduceToNat, Int.reduceLT, Int.reduceLE, Int.reduceEq, Int.reduceNeg, Int.reduceSub, Int.reduceAdd, Int.reduceMul, stG_own, ldC_pts]
    obtain ⟨q1, q2⟩ := ringprev (show i < c.length by omega)
    have e1 : ((i : Int) + (c.length : Int) - 1).tmod (c.length : Int) = (((i + c.length - 1) % c.length : Nat) : Int) := by
      rw [show (i : Int) + (c.length : Int) - 1 = ((i + c.length - 1 : Nat) : Int) by omega]; rfl
    have hg1 := hg _ q1
    have hno' := hno
    rw [e1]
    simp only [Int.toNat_natCast]
    generalize hk : (i + c.length - 1) % c.length = k at *
    refine ⟨⟨by omega, by omega⟩, ⟨by omega, by omega⟩, by omega, ⟨by omega, by omega, by rw [pts_len]; omega⟩, gt c k, hg1, eqOk_pt _ x, fun h4 => ?_, fun h4 => ⟨⟨by omega, by omega⟩, ⟨i + 1, by omega, fun j hj => ?_, by simp⟩, by omega⟩⟩
    · have h5 := (eq_pt (gt c k) x).1 h4
      rw [if_pos (dbl_iff.2 ⟨k, by omega, by rw [q2, hx]; exact h5⟩)]
    · by_cases e : j = i
      · intro h5
        rw [e, hk, hx] at h5
        exact h4 ((eq_pt _ x).2 h5)
      · exact hno j (by omega)
  · have e : i = c.length := by omega
    subst e
    have hnd : ¬dbl c c.length = true := fun h3 => by
      obtain ⟨j, h4, h5⟩ := dbl_iff.1 h3
      obtain ⟨r1, r2⟩ := ringnext h4
      exact hno _ r1 (by rw [r2]; exact h5)
    rw [if_neg hnd]
    refine callF_of (Tryz.psimple c c.length (by omega) (by omega) hsz) ?_
    (refine ev ?_; try with_reducible exact trivial)
/-- the sum of the triangles, up to a place -/
def totK (c : List Pt) : Nat → Rat
  | 0 => 0
  | k + 1 => if 2 ≤ k then totK c k + ar (gt c 0) (gt c (k - 1)) (gt c k) else 0
theorem rd_nought : rd (0 : Rat) ≤ 1 := by
  have h := rd_z 0
  rw [show ((0 : Int) : Rat) = 0 from rfl] at h
  rw [h]
  exact dd_len_le (by decide) (by decide)
theorem ldC_pts0 {l : List Pt} {t : Nat} {N : EP} {E : Env} : ldC true 2 (List.take 2 (pts l)) t N E = (∃ x, l[0]? = some x ∧ N (st1 E t (.agg (pD x)))) := ldC_pts (l := l) (k := 0)
theorem rd_totK {c : List Pt} (hsz : ∀ p ∈ c, Sz 30 p) : ∀ {k : Nat}, k ≤ c.length → rd (totK c k) ≤ 250 * k + 1
  | 0, _ => by show rd 0 ≤ 1; exact rd_nought
  | k + 1, hk => by
    unfold totK
    split
    · have ih := rd_totK hsz (k := k) (by omega)
      have hz : ∀ j, j < c.length → Sz 30 (gt c j) := fun j hj => hsz _ (List.mem_of_getElem? (show c[j]? = some (gt c j) by rw [List.getElem?_eq_getElem hj]; simp [gt, List.getD_eq_getElem?_getD, hj]))
      have h1 := rd_ar30 (hz 0 (by omega)) (hz (k - 1) (by omega)) (hz k (by omega))
      have h2 := rd_add (totK c k) (ar (gt c 0) (gt c (k - 1)) (gt c k))
      omega
    · have := rd_nought
      omega
set_option maxHeartbeats 4000000 in
theorem Tryz.ptotal (c : List Pt) (hlen : c.length ≤ 8) (h3 : 3 ≤ c.length) (hsz : ∀ p ∈ c, Sz 30 p) : Con Tryz.prog Tryz.L 66 [chn c] (.str (rt (totK c c.length))) := by
  have hg : ∀ j, j < c.length → c[j]? = some (gt c j) := fun j hj => by
    rw [List.getElem?_eq_getElem hj]; simp [gt, List.getD_eq_getElem?_getD, hj]
  have hz : ∀ j, j < c.length → Sz 30 (gt c j) := fun j hj => hsz _ (List.mem_of_getElem? (hg j hj))
  refine rule66 Tryz.hL rfl rfl rfl ?_
  (simp only [pc66, rs66, oU, oC]; refine ev ?_; try with_reducible exact trivial)
  refine loopF_of (fun E => ∃ k : Nat, 2 ≤ k ∧ k ≤ c.length ∧ E = [(0, chn c), (3, .str (rt (totK c k))), (4, .int .i64 k)])
    (fun E => match lk E 4 with | .int _ i => c.length - i.toNat | _ => 0) ⟨2, by omega, by omega, by rw [show totK c 2 = 0 from rfl, zero_txt]; rfl⟩ ?_
  rintro _ ⟨k, hk2, hk, rfl⟩
  simp only [evX, evY, evZ, forall_const, implies_true, initE, stepF, D.clean, mvF, moF, tkF, shF, ariF, ciF, catF, scF, ebF, eqF, eqOk, eqPr, enF, notF, ngF, cvF, csF, csbF, lenF, lenSF, ixF, iaF, PX.slot, iaAF, faF, ldF, D.mem, stF, bxF, mkSF, boundF, fldF, ixAF, mmF2, D.plain, D.isPure, optAll, D.dull, callVF, splice, D.cells, D.one, sets, resT, D.flat, D.flat0, D.simple, Nat.reduceBNe, Nat.reduceLT, reduceIte, Nat.reduceEqDiff, Nat.reduceAdd, Nat.reduceMul, Nat.reduceSub, Nat.reduceLeDiff, Int.reduceToNat, Int.reduceLT, Int.reduceLE, Int.reduceEq, Int.reduceNeg, Int.reduceSub, Int.reduceAdd, Int.reduceMul, stG_own, ldC_pts, ldC_pts0]
  refine ⟨fun h1 => ?_, fun h1 => ?_⟩
  · have hr := rd_totK hsz (k := k) (by omega)
    have ha := rd_ar30 (hz 0 (by omega)) (hz (k - 1) (by omega)) (hz k (by omega))
    have e1 : ((k : Int) - 1).toNat = k - 1 := by omega
    rw [e1]
    refine ⟨⟨by omega, by rw [pts_len]; omega⟩, _, hg 0 (by omega), ⟨by omega, by omega⟩, ⟨by omega, by omega, by rw [pts_len]; omega⟩, _, hg (k - 1) (by omega), ⟨by omega, by omega, by rw [pts_len]; omega⟩, _, hg k (by omega), ?_⟩
    refine callF_of (Tryz.parea _ _ _ ((hz 0 (by omega)).more (by decide)) ((hz (k - 1) (by omega)).more (by decide)) ((hz k (by omega)).more (by decide))) ?_
    (refine ev ?_; try with_reducible exact trivial)
    refine callF_of (Tryz.radd _ _ (by omega) (by omega)) ?_
    (refine ev ?_; try with_reducible exact trivial)
    have e2 : totK c (k + 1) = totK c k + ar (gt c 0) (gt c (k - 1)) (gt c k) := by
      show (if 2 ≤ k then _ else _) = _
      rw [if_pos hk2]
    exact ⟨⟨by omega, by omega⟩, ⟨k + 1, by omega, by omega, by rw [e2]; exact ⟨rfl, rfl⟩⟩, by omega⟩
  · have e : k = c.length := by omega
    subst e
    rfl
set_option maxHeartbeats 4000000 in
theorem Tryz.pareaR (c : List Pt) (hlen : c.length ≤ 8) (hsz : ∀ p ∈ c, Sz 30 p) (hc : chkN c true = 0) (hr : rd (totK c c.length) ≤ 200) : Con Tryz.prog Tryz.L 30 [chn c] (.tup [.str (rt (totK c c.length)), .int .i64 0]) := by
  have h3 : 3 ≤ c.length := by
    unfold chkN at hc
    by_cases h : c.length < 3
    · rw [if_pos (by simpa using h)] at hc; exact absurd hc (by decide)
    · omega
  have c1 := Tryz.pringL c (by omega) hsz
  rw [hc] at c1
  refine rule30 Tryz.hL rfl rfl rfl ?_
  (simp only [pc30, rs30, oU, oC]; refine ev ?_; try with_reducible exact trivial)
  refine callF_of c1 ?_
  (refine ev ?_; try with_reducible exact trivial)
  refine callF_of (Tryz.ptotal c hlen h3 hsz) ?_
  (refine ev ?_; try with_reducible exact trivial)
  refine callF_of (Tryz.rcheckQ _ hr) ?_
  (refine ev ?_; try with_reducible exact trivial)
  simp [resD_two, rvD, lk, D.plain, D.isPure, optAll]
end Go.Proofs

/-
  POLYLINE: the law's between, meet. Own work.
-/
namespace Go.Proofs
open Go Go.Pi Go.RowKit Go.Ar Go.Ge

theorem ldC_ptsO {l : List Pt} {k t : Nat} {N : EP} {E : Env} : ldC true 2 (List.drop (k * 2) (pts l)) t N E = (∃ x, l[k]? = some x ∧ N (st1 E t (.agg (pD x)))) := by
  unfold ldC
  cases h : l[k]? with
  | none =>
    have hk : l.length ≤ k := by simpa using h
    have e : List.drop (k * 2) (pts l) = [] := by rw [List.drop_eq_nil_of_le (by rw [rows_length pD_len]; omega)]
    rw [e]; simp [ofCells]
  | some x =>
    rw [ofCells_rows pD_len h]
    simp
theorem trn_sg {a b c : Pt} : ((ar a b c).num.sign = 0) = (ar a b c = 0) := propext trn_zero
set_option maxHeartbeats 4000000 in
theorem Tryz.lbetween (a b p : Pt) (ha : Sz 300 a) (hb : Sz 300 b) (hp : Sz 300 p) : Con Tryz.prog Tryz.L 25 [ptD a, ptD b, ptD p] (.bool (decide (btw a b p))) := by
  have r1 := rd_ar ha hb hp
  refine rule25 Tryz.hL rfl rfl rfl ?_
  simp only [ptD, pc25, rs25, oU, oC, evX, evY, evZ, forall_const, implies_true, initE, stepF, D.clean, mvF, moF, tkF, shF, ariF, ciF, catF, scF, ebF, eqF, eqOk, eqPr, enF, notF, ngF, cvF, csF, csbF, lenF, lenSF, ixF, iaF, PX.slot, iaAF, faF, ldF, D.mem, stF, bxF, mkSF, boundF, fldF, ixAF, mmF2, D.plain, D.isPure, optAll, D.dull, callVF, splice, D.cells, D.one, sets, resT, D.flat, D.flat0, D.simple, Nat.reduceBNe, Nat.reduceLT, reduceIte, Nat.reduceEqDiff, Nat.reduceAdd, Nat.reduceMul, Nat.reduceSub, Nat.reduceLeDiff, Int.reduceToNat, Int.reduceLT, Int.reduceLE, Int.reduceEq, Int.reduceNeg, Int.reduceSub, Int.reduceAdd, Int.reduceMul, stG_own]
  refine callF_of (Tryz.lcompare a b ha hb) ?_
  (refine ev ?_; try with_reducible exact trivial)
  refine ⟨fun h => ?_, fun h => ?_⟩
  · refine callF_of (Tryz.larea a b p ha hb hp) ?_
    (refine ev ?_; try with_reducible exact trivial)
    refine callF_of (Tryz.rsign _ (by omega)) ?_
    (refine ev ?_; try with_reducible exact trivial)
    refine ⟨fun h0 => ?_, fun h0 => by rw [trn_sg] at h0; rw [decide_eq_false (fun k => h0 k.1)]⟩
    rw [trn_sg] at h0
    have hB : btw a b p ↔ le b p ∧ le p a := by rw [btw_mn h0, (mn_swap h).1, (mn_swap h).2]
    rw [decide_eq_decide.2 hB]
    refine callF_of (Tryz.lcompare b p hb hp) ?_
    (refine ev ?_; try with_reducible exact trivial)
    refine ⟨fun h1 => ?_, fun h1 => by rw [cmpP_le] at h1; simp [h1]⟩
    have h2 := (cmpP_le _ _).1 h1
    have hD : dB (cmpP p a ≤ 0) = decide (le b p ∧ le p a) := by rw [cmpP_le, dB_dec]; simp [h2]
    refine callF_of (Tryz.lcompare p a hp ha) ?_
    (refine ev ?_; try with_reducible exact trivial)
    rw [hD]
  · refine callF_of (Tryz.larea a b p ha hb hp) ?_
    (refine ev ?_; try with_reducible exact trivial)
    refine callF_of (Tryz.rsign _ (by omega)) ?_
    (refine ev ?_; try with_reducible exact trivial)
    refine ⟨fun h0 => ?_, fun h0 => by rw [trn_sg] at h0; rw [decide_eq_false (fun k => h0 k.1)]⟩
    rw [trn_sg] at h0
    have hB : btw a b p ↔ le a p ∧ le p b := by rw [btw_mn h0, (mn_same h).1, (mn_same h).2]
    rw [decide_eq_decide.2 hB]
    refine callF_of (Tryz.lcompare a p ha hp) ?_
    (refine ev ?_; try with_reducible exact trivial)
    refine ⟨fun h1 => ?_, fun h1 => by rw [cmpP_le] at h1; simp [h1]⟩
    have h2 := (cmpP_le _ _).1 h1
    have hD : dB (cmpP p b ≤ 0) = decide (le a p ∧ le p b) := by rw [cmpP_le, dB_dec]; simp [h2]
    refine callF_of (Tryz.lcompare p b hp hb) ?_
    (refine ev ?_; try with_reducible exact trivial)
    rw [hD]
/-- what the law's meet returns -/
def lmO (a b c d : Pt) : List Pt → D
  | [] => if 0 ≤ ar c d a * ar c d b ∨ 0 ≤ ar a b c * ar a b d then mtD .apart else mtD (.touch (atK a b (ar c d a) (ar c d b)))
  | [x] => mtD (.touch x)
  | x :: _ :: _ => .tup [.int .i64 2, ptD x]
def lmD (a b c d : Pt) : D := lmO a b c d (onB a b c d [a, b, c, d])
theorem lmO_al (a b c d : Pt) (l : List Pt) : aliasOf (lmO a b c d l) = none := by
  match l with
  | [] => show aliasOf (if _ then _ else _) = none; split <;> exact mtD_al _
  | [x] => show aliasOf (mtD (.touch x)) = none; rfl
  | x :: y :: l => rfl
theorem lmD_al (a b c d : Pt) : aliasOf (lmD a b c d) = none := lmO_al ..
theorem fin2' (p : Pt) : resD [(8, D.int IntKind.i64 2), (9, D.box true [D.str (rt p.1), D.str (rt p.2)])] [RV.t 8, RV.c 9 true 2] = some (.tup [.int .i64 2, ptD p]) := by
  simp [resD_two, rvD, lk, D.plain, D.isPure, optAll, ptD, ofCells]
theorem sgn_mul0 (x y : Rat) : 0 ≤ x.num.sign * y.num.sign ↔ 0 ≤ x * y := by
  have sx : ∀ z : Rat, (z.num.sign = 1 ∧ 0 < z) ∨ (z.num.sign = -1 ∧ z < 0) ∨ (z.num.sign = 0 ∧ z = 0) := fun z => by
    rcases Int.lt_trichotomy z.num 0 with h | h | h
    · exact .inr (.inl ⟨Int.sign_eq_neg_one_of_neg h, Rat.not_le.1 fun h' => by have := Rat.num_nonneg.2 h'; omega⟩)
    · exact .inr (.inr ⟨by rw [h]; rfl, Rat.num_eq_zero.1 h⟩)
    · refine .inl ⟨Int.sign_eq_one_of_pos h, ?_⟩
      have h3 := Rat.num_nonneg.1 (Int.le_of_lt h)
      have h4 : z ≠ 0 := fun e => by rw [e] at h; exact absurd h (by decide)
      exact Rat.not_le.1 fun h5 => h4 (Rat.le_antisymm h5 h3)
  rcases sx x with ⟨e1, h1⟩ | ⟨e1, h1⟩ | ⟨e1, h1⟩ <;> rcases sx y with ⟨e2, h2⟩ | ⟨e2, h2⟩ | ⟨e2, h2⟩ <;> rw [e1, e2]
  · exact ⟨fun _ => Rat.le_of_lt (Rat.mul_pos h1 h2), fun _ => by decide⟩
  · exact ⟨fun h => absurd h (by decide), fun h => by have := Rat.mul_pos h1 (show 0 < -y by grind); grind⟩
  · exact ⟨fun _ => by rw [h2, Rat.mul_zero]; exact Rat.le_refl, fun _ => by decide⟩
  · exact ⟨fun h => absurd h (by decide), fun h => by have := Rat.mul_pos (show 0 < -x by grind) h2; grind⟩
  · exact ⟨fun _ => by have := Rat.mul_pos (show 0 < -x by grind) (show 0 < -y by grind); grind, fun _ => by decide⟩
  · exact ⟨fun _ => by rw [h2, Rat.mul_zero]; exact Rat.le_refl, fun _ => by decide⟩
  · exact ⟨fun _ => by rw [h1, Rat.zero_mul]; exact Rat.le_refl, fun _ => by decide⟩
  · exact ⟨fun _ => by rw [h1, Rat.zero_mul]; exact Rat.le_refl, fun _ => by decide⟩
  · exact ⟨fun _ => by rw [h1, Rat.zero_mul]; exact Rat.le_refl, fun _ => by decide⟩
theorem ldC_ptsO0 {l : List Pt} {t : Nat} {N : EP} {E : Env} : ldC true 2 (pts l) t N E = (∃ x, l[0]? = some x ∧ N (st1 E t (.agg (pD x)))) := ldC_ptsO (l := l) (k := 0)
set_option maxRecDepth 100000 in
set_option maxHeartbeats 4000000 in
theorem Tryz.lmeet (a b c d : Pt) (ha : Sz 30 a) (hb : Sz 30 b) (hc : Sz 30 c) (hd : Sz 30 d) : Con Tryz.prog Tryz.L 45 [ptD a, ptD b, ptD c, ptD d] (lmD a b c d) := by
  refine rule45 Tryz.hL (lmD_al a b c d) rfl rfl ?_
  simp only [ptD, pc45, rs45, oU, oC, evX, evY, evZ, forall_const, implies_true, initE, stepF, D.clean, mvF, moF, tkF, shF, ariF, ciF, catF, scF, ebF, eqF, eqOk, eqPr, enF, notF, ngF, cvF, csF, csbF, lenF, lenSF, ixF, iaF, PX.slot, iaAF, faF, ldF, D.mem, stF, bxF, mkSF, boundF, fldF, ixAF, mmF2, D.plain, D.isPure, optAll, D.dull, callVF, splice, D.cells, D.one, sets, resT, D.flat, D.flat0, D.simple, Nat.reduceBNe, Nat.reduceLT, reduceIte, Nat.reduceEqDiff, Nat.reduceAdd, Nat.reduceMul, Nat.reduceSub, Nat.reduceLeDiff, Int.reduceToNat, Int.reduceLT, Int.reduceLE, Int.reduceEq, Int.reduceNeg, Int.reduceSub, Int.reduceAdd, Int.reduceMul, stG_own]
  have hl4 : ∃ l4 : List Pt, l4 = [a, b, c, d] := ⟨_, rfl⟩
  obtain ⟨l4, hl4⟩ := hl4
  have hlen : l4.length = 4 := by rw [hl4]; rfl
  have hz4 : ∀ x ∈ l4, Sz 300 x := fun x hx => by
    rw [hl4] at hx
    simp only [List.mem_cons, List.not_mem_nil, or_false] at hx
    rcases hx with rfl | rfl | rfl | rfl
    · exact ha.more (by decide)
    · exact hb.more (by decide)
    · exact hc.more (by decide)
    · exact hd.more (by decide)
  have hA := ha.more (show 30 ≤ 300 by decide)
  have hB := hb.more (show 30 ≤ 300 by decide)
  have hC := hc.more (show 30 ≤ 300 by decide)
  have hD := hd.more (show 30 ≤ 300 by decide)
  refine loopF_of (fun E => ∃ (k : Nat) (o : List Pt), k ≤ 4 ∧ o = onB a b c d (l4.take k) ∧ o.length ≤ k ∧ E = [(4, .box true [.str (rt a.1), .str (rt a.2)]), (5, .box true [.str (rt b.1), .str (rt b.2)]), (6, .box true [.str (rt c.1), .str (rt c.2)]), (7, .box true [.str (rt d.1), .str (rt d.2)]), (9, .box true [.str [], .str []]), (10, .own true 35 o.length (pts o)), (27, .own true 35 4 (pts l4)), (28, .int .i64 4), (29, .int .i64 k)])
    (fun E => match lk E 29 with | .int _ i => 4 - i.toNat | _ => 0) ⟨0, [], by omega, rfl, Nat.le_refl _, by rw [hl4]; rfl⟩ ?_
  rintro _ ⟨k, o, hk, ho, hol, rfl⟩
  simp only [evX, evY, evZ, forall_const, implies_true, initE, stepF, D.clean, mvF, moF, tkF, shF, ariF, ciF, catF, scF, ebF, eqF, eqOk, eqPr, enF, notF, ngF, cvF, csF, csbF, lenF, lenSF, ixF, iaF, PX.slot, iaAF, faF, ldF, D.mem, stF, bxF, mkSF, boundF, fldF, ixAF, mmF2, D.plain, D.isPure, optAll, D.dull, callVF, splice, D.cells, D.one, sets, resT, D.flat, D.flat0, D.simple, Nat.reduceBNe, Nat.reduceLT, reduceIte, Nat.reduceEqDiff, Nat.reduceAdd, Nat.reduceMul, Nat.reduceSub, Nat.reduceLeDiff, Int.reduceToNat, Int.reduceLT, Int.reduceLE, Int.reduceEq, Int.reduceNeg, Int.reduceSub, Int.reduceAdd, Int.reduceMul, stG_own, ldC_ptsO]
  refine ⟨fun h1 => ?_, fun h1 => ?_⟩
  · have hx : l4[k]? = some (l4[k]'(by omega)) := List.getElem?_eq_getElem (by omega)
    have htk : l4.take (k + 1) = l4.take k ++ [l4[k]'(by omega)] := List.take_succ_eq_append_getElem (by omega)
    generalize l4[k]'(by omega) = x at hx htk
    have zx := hz4 x (List.mem_of_getElem? hx)
    have hstep : onB a b c d (l4.take (k + 1)) = if btw a b x ∧ btw c d x then (if x ∈ o then o else o ++ [x]) else o := by
      rw [ho, htk]; unfold onB; rw [List.foldl_append]; rfl
    refine ⟨⟨by omega, by omega, by rw [pts_len]; omega⟩, x, hx, ?_⟩
    simp only [pD, evX, evY, evZ, forall_const, implies_true, initE, stepF, D.clean, mvF, moF, tkF, shF, ariF, ciF, catF, scF, ebF, eqF, eqOk, eqPr, enF, notF, ngF, cvF, csF, csbF, lenF, lenSF, ixF, iaF, PX.slot, iaAF, faF, ldF, D.mem, stF, bxF, mkSF, boundF, fldF, ixAF, mmF2, D.plain, D.isPure, optAll, D.dull, callVF, splice, D.cells, D.one, sets, resT, D.flat, D.flat0, D.simple, Nat.reduceBNe, Nat.reduceLT, reduceIte, Nat.reduceEqDiff, Nat.reduceAdd, Nat.reduceMul, Nat.reduceSub, Nat.reduceLeDiff, Int.reduceToNat, Int.reduceLT, Int.reduceLE, Int.reduceEq, Int.reduceNeg, Int.reduceSub, Int.reduceAdd, Int.reduceMul, stG_own]
    refine callF_of (Tryz.lbetween a b x hA hB zx) ?_
    cases hb1 : decide (btw a b x) with
    | false =>
      (refine ev ?_; try with_reducible exact trivial)
      have hno : ¬(btw a b x ∧ btw c d x) := fun h => of_decide_eq_false hb1 h.1
      exact ⟨⟨by omega, by omega⟩, ⟨k + 1, o, by omega, by rw [hstep, if_neg hno], by omega, rfl, by simp⟩, by omega⟩
    | true =>
      (refine ev ?_; try with_reducible exact trivial)
      refine callF_of (Tryz.lbetween c d x hC hD zx) ?_
      cases hb2 : decide (btw c d x) with
      | false =>
        (refine ev ?_; try with_reducible exact trivial)
        have hno : ¬(btw a b x ∧ btw c d x) := fun h => of_decide_eq_false hb2 h.2
        exact ⟨⟨by omega, by omega⟩, ⟨k + 1, o, by omega, by rw [hstep, if_neg hno], by omega, rfl, by simp⟩, by omega⟩
      | true =>
        (refine ev ?_; try with_reducible exact trivial)
        rw [if_pos ⟨of_decide_eq_true hb1, of_decide_eq_true hb2⟩] at hstep
        refine loopF_of (fun E => ∃ i : Nat, i ≤ o.length ∧ E = [(4, .box true [.str (rt a.1), .str (rt a.2)]), (5, .box true [.str (rt b.1), .str (rt b.2)]), (6, .box true [.str (rt c.1), .str (rt c.2)]), (7, .box true [.str (rt d.1), .str (rt d.2)]), (9, .box true [.str [], .str []]), (10, .own true 35 o.length (pts o)), (12, .box true [.str (rt x.1), .str (rt x.2)]), (13, .bool (decide (x ∈ o.take i))), (14, .int .i64 i), (27, .own true 35 4 (pts l4)), (28, .int .i64 4), (29, .int .i64 k)])
          (fun E => match lk E 14 with | .int _ i => o.length - i.toNat | _ => 0) ⟨0, by omega, rfl⟩ ?_
        rintro _ ⟨i, hi, rfl⟩
        cases hq : decide (x ∈ o.take i) with
        | true =>
          simp only [evX, evY, evZ, forall_const, implies_true, initE, stepF, D.clean, mvF, moF, tkF, shF, ariF, ciF, catF, scF, ebF, eqF, eqOk, eqPr, enF, notF, ngF, cvF, csF, csbF, lenF, lenSF, ixF, iaF, PX.slot, iaAF, faF, ldF, D.mem, stF, bxF, mkSF, boundF, fldF, ixAF, mmF2, D.plain, D.isPure, optAll, D.dull, callVF, splice, D.cells, D.one, sets, resT, D.flat, D.flat0, D.simple, Nat.reduceBNe, Nat.reduceLT, reduceIte, Nat.reduceEqDiff, Nat.reduceAdd, Nat.reduceMul, Nat.reduceSub, Nat.reduceLeDiff, Int.reduceToNat, Int.reduceLT, Int.reduceLE, Int.reduceEq, Int.reduceNeg, Int.reduceSub, Int.reduceAdd, Int.reduceMul, stG_own, ldC_ptsO]
          have hm := of_decide_eq_true hq
          have hm2 : x ∈ o.take (i + 1) := by rw [List.take_add_one]; exact List.mem_append_left _ hm
          exact ⟨fun h3 => ⟨⟨by omega, by omega⟩, ⟨i + 1, by omega, by rw [decide_eq_true hm2], by simp⟩, by omega⟩, fun h3 => ⟨⟨by omega, by omega⟩, ⟨k + 1, o, by omega, by rw [hstep, if_pos (List.mem_of_mem_take hm)], by omega, rfl, by simp⟩, by omega⟩⟩
        | false =>
          simp only [evX, evY, evZ, forall_const, implies_true, initE, stepF, D.clean, mvF, moF, tkF, shF, ariF, ciF, catF, scF, ebF, eqF, eqOk, eqPr, enF, notF, ngF, cvF, csF, csbF, lenF, lenSF, ixF, iaF, PX.slot, iaAF, faF, ldF, D.mem, stF, bxF, mkSF, boundF, fldF, ixAF, mmF2, D.plain, D.isPure, optAll, D.dull, callVF, splice, D.cells, D.one, sets, resT, D.flat, D.flat0, D.simple, Nat.reduceBNe, Nat.reduceLT, reduceIte, Nat.reduceEqDiff, Nat.reduceAdd, Nat.reduceMul, Nat.reduceSub, Nat.reduceLeDiff, Int.reduceToNat, Int.reduceLT, Int.reduceLE, Int.reduceEq, Int.reduceNeg, Int.reduceSub, Int.reduceAdd, Int.reduceMul, stG_own, ldC_ptsO]
          have hm := of_decide_eq_false hq
          refine ⟨fun h3 => ?_, fun h3 => ?_⟩
          · have hy : o[i]? = some (o[i]'(by omega)) := List.getElem?_eq_getElem (by omega)
            generalize o[i]'(by omega) = y at hy
            have e1 : eqPr [2, 2] (pD y) [D.str (rt x.1), D.str (rt x.2)] ↔ x ∈ o.take (i + 1) := by
              rw [List.take_add_one, hy]
              refine (eq_pt y x).trans ⟨fun h => by simp [h], fun h => ?_⟩
              rcases List.mem_append.1 h with h | h
              · exact absurd h hm
              · have h' : x = y := by simpa using h
                exact h'.symm
            refine ⟨⟨by omega, by omega, by rw [pts_len]; omega⟩, y, hy, eqOk_pt y x, ⟨by omega, by omega⟩, ⟨i + 1, by omega, ?_, by simp⟩, by omega⟩
            rw [propext e1]; first | rfl | rw [dB_dec]
          · have e2 : i = o.length := by omega
            rw [e2, List.take_length] at hm
            rw [if_neg hm] at hstep
            exact ⟨by omega, by omega, ⟨by omega, by omega⟩, ⟨k + 1, o ++ [x], by omega, hstep.symm, by simp; omega, by rw [pts_snoc, List.length_append]; rfl, by simp⟩, by omega⟩
  · have e : k = 4 := by omega
    subst e
    rw [show l4.take 4 = l4 by rw [← hlen, List.take_length], hl4] at ho
    unfold lmD
    rw [← ho]
    clear ho hl4 hz4
    simp only [ldC_ptsO0]
    match o, hol with
    | x :: y :: o, hol =>
      refine ⟨fun h2 => ⟨⟨h2, by rw [pts_len]; simp; omega⟩, x, rfl, ?_⟩, fun h2 => absurd h2 (by simp; omega)⟩
      simp only [pD, evX, evY, evZ, forall_const, implies_true, initE, stepF, D.clean, mvF, moF, tkF, shF, ariF, ciF, catF, scF, ebF, eqF, eqOk, eqPr, enF, notF, ngF, cvF, csF, csbF, lenF, lenSF, ixF, iaF, PX.slot, iaAF, faF, ldF, D.mem, stF, bxF, mkSF, boundF, fldF, ixAF, mmF2, D.plain, D.isPure, optAll, D.dull, callVF, splice, D.cells, D.one, sets, resT, D.flat, D.flat0, D.simple, Nat.reduceBNe, Nat.reduceLT, reduceIte, Nat.reduceEqDiff, Nat.reduceAdd, Nat.reduceMul, Nat.reduceSub, Nat.reduceLeDiff, Int.reduceToNat, Int.reduceLT, Int.reduceLE, Int.reduceEq, Int.reduceNeg, Int.reduceSub, Int.reduceAdd, Int.reduceMul, stG_own]
      rw [show (if (2 : Int) < ((o.length + 1 + 1 : Nat) : Int) then (2 : Int) else ((o.length + 1 + 1 : Nat) : Int)) = 2 by split <;> omega]
      exact fin2' x
    | [x], _ =>
      refine ⟨fun h2 => ⟨⟨h2, by rw [pts_len]; simp⟩, x, rfl, ?_⟩, fun h2 => absurd h2 (by simp)⟩
      simp only [pD, evX, evY, evZ, forall_const, implies_true, initE, stepF, D.clean, mvF, moF, tkF, shF, ariF, ciF, catF, scF, ebF, eqF, eqOk, eqPr, enF, notF, ngF, cvF, csF, csbF, lenF, lenSF, ixF, iaF, PX.slot, iaAF, faF, ldF, D.mem, stF, bxF, mkSF, boundF, fldF, ixAF, mmF2, D.plain, D.isPure, optAll, D.dull, callVF, splice, D.cells, D.one, sets, resT, D.flat, D.flat0, D.simple, Nat.reduceBNe, Nat.reduceLT, reduceIte, Nat.reduceEqDiff, Nat.reduceAdd, Nat.reduceMul, Nat.reduceSub, Nat.reduceLeDiff, Int.reduceToNat, Int.reduceLT, Int.reduceLE, Int.reduceEq, Int.reduceNeg, Int.reduceSub, Int.reduceAdd, Int.reduceMul, stG_own]
      exact fin1 x
    | [], _ =>
      refine ⟨fun h2 => absurd h2 (by simp), fun _ => ?_⟩
      have r1 := rd_ar30 hc hd ha
      have r2 := rd_ar30 hc hd hb
      have r3 := rd_ar30 ha hb hc
      have r4 := rd_ar30 ha hb hd
      refine callF_of (Tryz.larea c d a hC hD hA) ?_
      (refine ev ?_; try with_reducible exact trivial)
      refine callF_of (Tryz.larea c d b hC hD hB) ?_
      (refine ev ?_; try with_reducible exact trivial)
      refine callF_of (Tryz.larea a b c hA hB hC) ?_
      (refine ev ?_; try with_reducible exact trivial)
      refine callF_of (Tryz.rsign _ (by omega)) ?_
      (refine ev ?_; try with_reducible exact trivial)
      refine callF_of (Tryz.larea a b d hA hB hD) ?_
      (refine ev ?_; try with_reducible exact trivial)
      refine callF_of (Tryz.rsign _ (by omega)) ?_
      (refine ev ?_; try with_reducible exact trivial)
      refine callF_of (Tryz.rsign _ (by omega)) ?_
      (refine ev ?_; try with_reducible exact trivial)
      refine callF_of (Tryz.rsign _ (by omega)) ?_
      (refine ev ?_; try with_reducible exact trivial)
      have hp1 := trn_prod c d a c d b
      have hp2 := trn_prod a b c a b d
      unfold trn at hp1 hp2
      have s3 := rd_sub (ar c d a) (ar c d b)
      have s4 := rd_div (ar c d a) (ar c d a - ar c d b)
      have b1 := ha.1; have b2 := ha.2; have b3 := hb.1; have b4 := hb.2
      have s5 := rd_sub b.1 a.1
      have s6 := rd_sub b.2 a.2
      have s7 := rd_mul (ar c d a / (ar c d a - ar c d b)) (b.1 - a.1)
      have s8 := rd_mul (ar c d a / (ar c d a - ar c d b)) (b.2 - a.2)
      have hO : lmO a b c d [] = if 0 ≤ ar c d a * ar c d b ∨ 0 ≤ ar a b c * ar a b d then mtD .apart else mtD (.touch (atK a b (ar c d a) (ar c d b))) := rfl
      rw [hO]
      clear hO
      rw [sgn_mul0, sgn_mul0]
      refine ⟨⟨by omega, by omega⟩, fun q1 => ⟨⟨by omega, by omega⟩, fun q2 => ?_, fun q2 => ?_⟩, fun q1 => ?_⟩
      · rw [if_pos (.inr q2)]; exact fin0
      · rw [if_neg (fun h => h.elim q1 q2)]
        have h0 : ar c d a - ar c d b ≠ 0 := fun e => q1 (by
          have e1 : ar c d a = ar c d b := by grind
          rw [e1]
          rcases Rat.le_total (a := 0) (b := ar c d b) with h | h
          · exact Rat.mul_nonneg h h
          · have := Rat.mul_nonneg (show 0 ≤ -ar c d b by grind) (show 0 ≤ -ar c d b by grind); grind)
        refine callF_of (Tryz.rsub _ _ (by omega) (by omega)) ?_
        (refine ev ?_; try with_reducible exact trivial)
        refine callF_of (Tryz.rdiv _ _ (by omega) (by omega) h0) ?_
        (refine ev ?_; try with_reducible exact trivial)
        refine callF_of (Tryz.rsub _ _ (by omega) (by omega)) ?_
        (refine ev ?_; try with_reducible exact trivial)
        refine callF_of (Tryz.rmul _ _ (by omega) (by omega)) ?_
        (refine ev ?_; try with_reducible exact trivial)
        refine callF_of (Tryz.radd _ _ (by omega) (by omega)) ?_
        (refine ev ?_; try with_reducible exact trivial)
        refine callF_of (Tryz.rsub _ _ (by omega) (by omega)) ?_
        (refine ev ?_; try with_reducible exact trivial)
        refine callF_of (Tryz.rmul _ _ (by omega) (by omega)) ?_
        (refine ev ?_; try with_reducible exact trivial)
        refine callF_of (Tryz.radd _ _ (by omega) (by omega)) ?_
        (refine ev ?_; try with_reducible exact trivial)
        exact fin1 (atK a b (ar c d a) (ar c d b))
      · rw [if_pos (.inl q1)]; exact fin0
end Go.Proofs

/-
  POLYLINE: the law's right; L02.Right. Own work.
-/
namespace Go.Proofs
open Go Go.Pi Go.RowKit Go.Ar Go.Ge

theorem Tryz.l02right (s : List UInt8) (hs : s.length ≤ 1000000) : Con Tryz.prog Tryz.L 17 [.str s] (.bool (dB (okR s))) := by
  refine rule17 Tryz.hL rfl rfl rfl ?_
  (simp only [pc17, rs17, oU, oC]; refine ev ?_; try with_reducible exact trivial)
  refine callF_of (Tryz.qright s hs) ?_
  (refine ev ?_; try with_reducible exact trivial)
theorem Tryz.lright (s t : List UInt8) (hs : s.length ≤ 1000000) (ht : t.length ≤ 1000000) : Con Tryz.prog Tryz.L 24 [.agg [.str s, .str t]] (.bool (dB (okR s ∧ okR t))) := by
  refine rule24 Tryz.hL rfl rfl rfl ?_
  (simp only [pc24, rs24, oU, oC]; refine ev ?_; try with_reducible exact trivial)
  refine callF_of (Tryz.l02right s hs) ?_
  (refine ev ?_; try with_reducible exact trivial)
  refine ⟨fun h => ?_, fun h => ?_⟩
  · refine callF_of (Tryz.l02right t ht) ?_
    (refine ev ?_; try with_reducible exact trivial)
    simp [h]
  · rw [dB_f (fun k => h k.1)]
theorem Tryz.lrightP (p : Pt) (h : Sz 30 p) : Con Tryz.prog Tryz.L 24 [ptD p] (.bool true) := by
  have h1 : okR (rt p.1) := (okR_rt p.1).2 (by have := h.1; omega)
  have h2 : okR (rt p.2) := (okR_rt p.2).2 (by have := h.2; omega)
  have l1 := rt_len p.1; have l2 := rt_len p.2
  have := Tryz.lright (rt p.1) (rt p.2) (by have := h.1; omega) (by have := h.2; omega)
  rw [dB_t ⟨h1, h2⟩] at this
  exact this
end Go.Proofs

/-
  POLYLINE: the law's check. Own work.
-/
namespace Go.Proofs
open Go Go.Pi Go.RowKit Go.Ar Go.Ge

theorem lmD_num (a b c d : Pt) : ∃ x y : List UInt8, lmD a b c d = .tup [.int .i64 ((meetL a b c d).num : Int), .agg [.str x, .str y]] := by
  unfold lmD meetL
  match onB a b c d [a, b, c, d] with
  | [] =>
    unfold lmO
    by_cases h : 0 ≤ ar c d a * ar c d b ∨ 0 ≤ ar a b c * ar a b d
    · simp only [if_pos h]; exact ⟨[], [], rfl⟩
    · simp only [if_neg h]; exact ⟨_, _, rfl⟩
  | [x] => exact ⟨_, _, rfl⟩
  | x :: y :: o => exact ⟨_, _, rfl⟩
set_option maxRecDepth 100000 in
set_option maxHeartbeats 4000000 in
theorem Tryz.lcheck (c : List Pt) (ring : Bool) (hlen : c.length ≤ 400) (hsz : ∀ p ∈ c, Sz 30 p) : Con Tryz.prog Tryz.L 13 [chn c, .bool ring] (.int .i64 (chkN c ring)) := by
  have hg : ∀ j, j < c.length → c[j]? = some (gt c j) := fun j hj => by
    rw [List.getElem?_eq_getElem hj]; simp [gt, List.getD_eq_getElem?_getD, hj]
  refine rule13 Tryz.hL rfl rfl rfl ?_
  cases ring with
  | false =>
    (simp only [pc13, rs13, oU, oC]; refine ev ?_; try with_reducible exact trivial)
    have hsg : segs c false = c.length - 1 := rfl
    unfold chkN
    rw [hsg]
    simp only [Bool.false_eq_true, if_false]
    refine ⟨fun h => by rw [if_pos (by omega)], fun h => ⟨fun h2 => by rw [if_neg (by omega), if_pos (by omega)], fun h2 => ?_⟩⟩
    rw [if_neg (by omega), if_neg (by omega)]
    refine loopF_of (fun E => ∃ i : Nat, i ≤ c.length ∧ (∀ j, j + 1 < i → gt c j ≠ gt c (j + 1)) ∧ E = [(0, chn c), (1, .bool false), (6, .int .i64 i)])
      (fun E => match lk E 6 with | .int _ i => c.length - i.toNat | _ => 0) ⟨0, by omega, fun _ h => absurd h (by omega), rfl⟩ ?_
    rintro _ ⟨i, hi, hno, rfl⟩
    simp only [evX, evY, evZ, forall_const, implies_true, initE, stepF, D.clean, mvF, moF, tkF, shF, ariF, ciF, catF, scF, ebF, eqF, eqOk, eqPr, enF, notF, ngF, cvF, csF, csbF, lenF, lenSF, ixF, iaF, PX.slot, iaAF, faF, ldF, D.mem, stF, bxF, mkSF, boundF, fldF, ixAF, mmF2, D.plain, D.isPure, optAll, D.dull, callVF, splice, D.cells, D.one, sets, resT, D.flat, D.flat0, D.simple, Nat.reduceBNe, Nat.reduceLT, reduceIte, Nat.reduceEqDiff, Nat.reduceAdd, Nat.reduceMul, Nat.reduceSub, Nat.reduceLeDiff, Int.reduceToNat, Int.reduceLT, Int.reduceLE, Int.reduceEq, Int.reduceNeg, Int.reduceSub, Int.reduceAdd, Int.reduceMul, stG_own, ldC_pts]
    refine ⟨fun h1 => ?_, fun h1 => ?_⟩
    · have hz : Sz 30 (gt c i) := hsz _ (List.mem_of_getElem? (hg i (by omega)))
      refine ⟨⟨by omega, by omega, by rw [pts_len]; omega⟩, _, hg i (by omega), ?_⟩
      refine callF_of (Tryz.lrightP (gt c i) hz) ?_
      simp only [evX, evY, evZ, forall_const, implies_true, initE, stepF, D.clean, mvF, moF, tkF, shF, ariF, ciF, catF, scF, ebF, eqF, eqOk, eqPr, enF, notF, ngF, cvF, csF, csbF, lenF, lenSF, ixF, iaF, PX.slot, iaAF, faF, ldF, D.mem, stF, bxF, mkSF, boundF, fldF, ixAF, mmF2, D.plain, D.isPure, optAll, D.dull, callVF, splice, D.cells, D.one, sets, resT, D.flat, D.flat0, D.simple, Nat.reduceBNe, Nat.reduceLT, reduceIte, Nat.reduceEqDiff, Nat.reduceAdd, Nat.reduceMul, Nat.reduceSub, Nat.reduceLeDiff, Int.reduceToNat, Int.reduceLT, Int.reduceLE, Int.reduceEq, Int.reduceNeg, Int.reduceSub, Int.reduceAdd, Int.reduceMul, stG_own, ldC_pts]
      have e1 : ((i : Int) - 1).toNat = i - 1 := by omega
      refine ⟨fun h3 => ?_, fun h3 => ?_⟩
      · refine ⟨⟨by omega, by omega, by rw [pts_len]; omega⟩, _, hg i (by omega), ⟨by omega, by omega⟩, ⟨by omega, by omega, by rw [pts_len]; omega⟩, gt c (i - 1), by rw [e1]; exact hg _ (by omega), eqOk_pt _ _, fun h4 => ⟨fun h5 => absurd h5 (by omega), fun h5 => ⟨⟨by omega, by omega⟩, ⟨i + 1, by omega, fun j hj => ?_, by simp⟩, by omega⟩⟩, fun h4 => ?_⟩
        · by_cases e : j + 1 = i
          · intro h6
            have e2 : j = i - 1 := by omega
            rw [e, e2] at h6
            exact h4 ((eq_pt _ _).2 h6.symm)
          · exact hno j (by omega)
        · have h5 := (eq_pt _ _).1 h4
          rw [if_pos (dbl_iff.2 ⟨i - 1, by omega, by rw [show (i - 1 + 1) % c.length = i by rw [Nat.mod_eq_of_lt (by omega)]; omega]; exact h5.symm⟩)]
      · exact ⟨fun h4 => ⟨⟨by omega, by omega⟩, ⟨i + 1, by omega, fun j hj => absurd hj (by omega), by simp⟩, by omega⟩, fun h4 => absurd (by omega) h4⟩
    · have e : i = c.length := by omega
      subst e
      have hnd : ¬dbl c (c.length - 1) = true := fun h3 => by
        obtain ⟨j, h4, h5⟩ := dbl_iff.1 h3
        rw [Nat.mod_eq_of_lt (by omega)] at h5
        exact hno j (by omega) h5
      rw [if_neg hnd]
      have hce : crs c (c.length - 1) = crsL c (c.length - 1) := crs_eq (c := c) (ring := false) (by simp; omega) (by simpa [segs] using hnd)
      rw [hce]
      have e1 : (c.length : Int) - 1 = ((c.length - 1 : Nat) : Int) := by omega
      rw [e1]
      refine ⟨⟨by omega, by omega⟩, ?_⟩
      refine loopF_of (fun E => ∃ i : Nat, i ≤ c.length - 1 ∧ (∀ i' k', i' < i → i' < k' → k' < c.length - 1 → ¬crossL (gt c) c.length (c.length - 1) i' k') ∧ E = [(0, chn c), (1, .bool false), (7, .int .i64 (c.length - 1 : Nat)), (8, .int .i64 i)])
        (fun E => match lk E 8 with | .int _ i => c.length - i.toNat | _ => 0) ⟨0, by omega, fun _ _ h => absurd h (by omega), rfl⟩ ?_
      rintro _ ⟨i, hi', hnc, rfl⟩
      (refine ev ?_; try with_reducible exact trivial)
      refine ⟨fun h1 => ?_, fun h1 => ?_⟩
      · refine ⟨⟨by omega, by omega⟩, ?_⟩
        refine loopF_of (fun E => ∃ k : Nat, i < k ∧ k ≤ c.length - 1 ∧ (∀ k', i < k' → k' < k → ¬crossL (gt c) c.length (c.length - 1) i k') ∧ E = [(0, chn c), (1, .bool false), (7, .int .i64 (c.length - 1 : Nat)), (8, .int .i64 i), (9, .int .i64 k)])
          (fun E => match lk E 9 with | .int _ i => c.length - i.toNat | _ => 0) ⟨i + 1, by omega, by omega, fun _ h2 h3 => absurd h3 (by omega), rfl⟩ ?_
        rintro _ ⟨k, hik, hk, hnc2, rfl⟩
        simp only [evX, evY, evZ, forall_const, implies_true, initE, stepF, D.clean, mvF, moF, tkF, shF, ariF, ciF, catF, scF, ebF, eqF, eqOk, eqPr, enF, notF, ngF, cvF, csF, csbF, lenF, lenSF, ixF, iaF, PX.slot, iaAF, faF, ldF, D.mem, stF, bxF, mkSF, boundF, fldF, ixAF, mmF2, D.plain, D.isPure, optAll, D.dull, callVF, splice, D.cells, D.one, sets, resT, D.flat, D.flat0, D.simple, Nat.reduceBNe, Nat.reduceLT, reduceIte, Nat.reduceEqDiff, Nat.reduceAdd, Nat.reduceMul, Nat.reduceSub, Nat.reduceLeDiff, Int.reduceToNat, Int.reduceLT, Int.reduceLE, Int.reduceEq, Int.reduceNeg, Int.reduceSub, Int.reduceAdd, Int.reduceMul, stG_own, ldC_pts]
        refine ⟨fun h2 => ?_, fun h2 => ?_⟩
        · have m1 : (k + 1) % c.length < c.length := Nat.mod_lt _ (by omega)
          have e2 : ((k : Int) + 1).tmod (c.length : Int) = (((k + 1) % c.length : Nat) : Int) := rfl
          have e3 : ((i : Int) + 1).toNat = i + 1 := by omega
          have e4 : (i + 1) % c.length = i + 1 := Nat.mod_eq_of_lt (by omega)
          have hz : ∀ j, j < c.length → Sz 30 (gt c j) := fun j hj => hsz _ (List.mem_of_getElem? (hg j hj))
          have cm := Tryz.lmeet (gt c i) (gt c (i + 1)) (gt c k) (gt c ((k + 1) % c.length)) (hz _ (by omega)) (hz _ (by omega)) (hz _ (by omega)) (hz _ m1)
          obtain ⟨x, y, hlm⟩ := lmD_num (gt c i) (gt c (i + 1)) (gt c k) (gt c ((k + 1) % c.length))
          rw [hlm] at cm
          have hcr : crossL (gt c) c.length (c.length - 1) i k ↔ (if k = i + 1 then 1 else 0) < (meetL (gt c i) (gt c (i + 1)) (gt c k) (gt c ((k + 1) % c.length))).num := by
            unfold crossL
            rw [e4]
            have : next c.length (c.length - 1) i k ↔ k = i + 1 := by unfold next; omega
            simp only [this]
          generalize (meetL (gt c i) (gt c (i + 1)) (gt c k) (gt c ((k + 1) % c.length))).num = nm at *
          rw [e2, e3]
          simp only [Int.toNat_natCast]
          refine ⟨⟨by omega, by omega, by rw [pts_len]; omega⟩, _, hg i (by omega), ⟨by omega, by omega⟩, ⟨by omega, by omega, by rw [pts_len]; omega⟩, _, hg (i + 1) (by omega), ⟨by omega, by omega, by rw [pts_len]; omega⟩, _, hg k (by omega), ⟨by omega, by omega⟩, by omega, ⟨by omega, by omega, by rw [pts_len]; omega⟩, _, hg _ m1, ?_⟩
          refine callF_of cm ?_
          (refine ev ?_; try with_reducible exact trivial)
          have yes : crossL (gt c) c.length (c.length - 1) i k → (26 : Int) = if crsL c (c.length - 1) = true then 26 else 0 := fun hc => by rw [if_pos (crsL_iff.2 ⟨i, k, hik, by omega, hc⟩)]
          have no : ¬crossL (gt c) c.length (c.length - 1) i k → ∃ k_1, i < k_1 ∧ k_1 ≤ c.length - 1 ∧ (∀ (k' : Nat), i < k' → k' < k_1 → ¬crossL (gt c) c.length (c.length - 1) i k') ∧ ((9 : Nat), D.int IntKind.i64 ((k : Int) + 1)) = (9, D.int IntKind.i64 (k_1 : Int)) := fun hc => ⟨k + 1, by omega, by omega, fun k' h3 h4 => by
            by_cases e : k' = k
            · rw [e]; exact hc
            · exact hnc2 k' h3 (by omega), by simp⟩
          refine ⟨⟨by omega, by omega⟩, fun h5 => ⟨fun h6 => yes (hcr.2 (by rw [if_neg (by omega)]; omega)), fun h6 => ⟨⟨by omega, by omega⟩, no (fun hc => by have := hcr.1 hc; rw [if_neg (by omega)] at this; omega), by omega⟩⟩,
            fun h5 => ⟨fun h6 => yes (hcr.2 (by rw [if_pos (by omega)]; omega)), fun h6 => ⟨⟨by omega, by omega⟩, no (fun hc => by have := hcr.1 hc; rw [if_pos (by omega)] at this; omega), by omega⟩⟩⟩
        · refine ⟨⟨by omega, by omega⟩, ⟨i + 1, by omega, fun i' k' h3 h4 h5 => ?_, by simp⟩, by omega⟩
          by_cases e : i' = i
          · rw [e] at h4 ⊢; exact hnc2 k' h4 (by omega)
          · exact hnc i' k' (by omega) h4 h5
      · rw [if_neg (fun h => by obtain ⟨i', k', h3, h4, h5⟩ := crsL_iff.1 h; exact hnc i' k' (by omega) h3 h4 h5)]
  | true =>
    (simp only [pc13, rs13, oU, oC]; refine ev ?_; try with_reducible exact trivial)
    have hsg : segs c true = c.length := rfl
    unfold chkN
    rw [hsg]
    simp only [if_true]
    refine ⟨fun h => by rw [if_pos (by omega)], fun h => ⟨fun h2 => by rw [if_neg (by omega), if_pos (by omega)], fun h2 => ?_⟩⟩
    rw [if_neg (by omega), if_neg (by omega)]
    refine loopF_of (fun E => ∃ i : Nat, i ≤ c.length ∧ (∀ j, j < i → gt c ((j + c.length - 1) % c.length) ≠ gt c j) ∧ E = [(0, chn c), (1, .bool true), (6, .int .i64 i)])
      (fun E => match lk E 6 with | .int _ i => c.length - i.toNat | _ => 0) ⟨0, by omega, fun _ h => absurd h (by omega), rfl⟩ ?_
    rintro _ ⟨i, hi, hno, rfl⟩
    simp only [evX, evY, evZ, forall_const, implies_true, initE, stepF, D.clean, mvF, moF, tkF, shF, ariF, ciF, catF, scF, ebF, eqF, eqOk, eqPr, enF, notF, ngF, cvF, csF, csbF, lenF, lenSF, ixF, iaF, PX.slot, iaAF, faF, ldF, D.mem, stF, bxF, mkSF, boundF, fldF, ixAF, mmF2, D.plain, D.isPure, optAll, D.dull, callVF, splice, D.cells, D.one, sets, resT, D.flat, D.flat0, D.simple, Nat.reduceBNe, Nat.reduceLT, reduceIte, Nat.reduceEqDiff, Nat.reduceAdd, Nat.reduceMul, Nat.reduceSub, Nat.reduceLeDiff, Int.reduceToNat, Int.reduceLT, Int.reduceLE, Int.reduceEq, Int.reduceNeg, Int.reduceSub, Int.reduceAdd, Int.reduceMul, stG_own, ldC_pts, ldC_pts0]
    refine ⟨fun h1 => ?_, fun h1 => ?_⟩
    · have hz : Sz 30 (gt c i) := hsz _ (List.mem_of_getElem? (hg i (by omega)))
      refine ⟨⟨by omega, by omega, by rw [pts_len]; omega⟩, _, hg i (by omega), ?_⟩
      refine callF_of (Tryz.lrightP (gt c i) hz) ?_
      simp only [evX, evY, evZ, forall_const, implies_true, initE, stepF, D.clean, mvF, moF, tkF, shF, ariF, ciF, catF, scF, ebF, eqF, eqOk, eqPr, enF, notF, ngF, cvF, csF, csbF, lenF, lenSF, ixF, iaF, PX.slot, iaAF, faF, ldF, D.mem, stF, bxF, mkSF, boundF, fldF, ixAF, mmF2, D.plain, D.isPure, optAll, D.dull, callVF, splice, D.cells, D.one, sets, resT, D.flat, D.flat0, D.simple, Nat.reduceBNe, Nat.reduceLT, reduceIte, Nat.reduceEqDiff, Nat.reduceAdd, Nat.reduceMul, Nat.reduceSub, Nat.reduceLeDiff, Int.reduceToNat, Int.reduceLT, Int.reduceLE, Int.reduceEq, Int.reduceNeg, Int.reduceSub, Int.reduceAdd, Int.reduceMul, stG_own, ldC_pts, ldC_pts0]
      have hpi : ∀ j, 0 < j → j < c.length → (j + c.length - 1) % c.length = j - 1 := fun j h0 hj => by
        rw [show j + c.length - 1 = (j - 1) + c.length by omega, Nat.add_mod_right, Nat.mod_eq_of_lt (by omega)]
      have hp0 : (0 + c.length - 1) % c.length = c.length - 1 := by
        rw [show 0 + c.length - 1 = c.length - 1 by omega, Nat.mod_eq_of_lt (by omega)]
      have e1 : ((i : Int) - 1).toNat = i - 1 := by omega
      have e2 : ((c.length : Int) - 1).toNat = c.length - 1 := by omega
      rw [e1, e2]
      have hnext : (∀ (x y : Pt), True) → (gt c ((i + c.length - 1) % c.length) ≠ gt c i) → ∃ i_1 : Nat, i_1 ≤ c.length ∧ (∀ (j : Nat), j < i_1 → ¬gt c ((j + c.length - 1) % c.length) = gt c j) ∧ ((6 : Nat), D.int IntKind.i64 ((i : Int) + 1)) = (6, D.int IntKind.i64 (i_1 : Int)) := fun _ h => ⟨i + 1, by omega, fun j hj => by
        by_cases e : j = i
        · rw [e]; exact h
        · exact hno j (by omega), by simp⟩
      refine ⟨fun h3 => ⟨⟨by omega, by omega, by rw [pts_len]; omega⟩, _, hg i (by omega), ⟨by omega, by omega⟩, ⟨by omega, by omega, by rw [pts_len]; omega⟩, gt c (i - 1), hg _ (by omega), eqOk_pt _ _, fun h4 => ⟨fun h5 => absurd h5 (by omega), fun _ => ⟨⟨by omega, by omega⟩, hnext (fun _ _ => trivial) ?_, by omega⟩⟩, fun h4 => ?_⟩,
        fun h3 => ⟨fun h4 => ⟨⟨by omega, by rw [pts_len]; omega⟩, gt c 0, hg 0 (by omega), ⟨by omega, by omega⟩, ⟨by omega, by omega, by rw [pts_len]; omega⟩, gt c (c.length - 1), hg _ (by omega), eqOk_pt _ _, fun h5 => ?_, fun h5 => ⟨⟨by omega, by omega⟩, hnext (fun _ _ => trivial) ?_, by omega⟩⟩, fun h4 => absurd (by omega) h4⟩⟩
      · intro h6
        rw [hpi i (by omega) (by omega)] at h6
        exact h4 ((eq_pt _ _).2 h6.symm)
      · have h5 := (eq_pt _ _).1 h4
        rw [if_pos (dbl_iff.2 ⟨i - 1, by omega, by rw [show (i - 1 + 1) % c.length = i by rw [Nat.mod_eq_of_lt (by omega)]; omega]; exact h5.symm⟩)]
      · have h6 := (eq_pt _ _).1 h5
        rw [if_pos (dbl_iff.2 ⟨c.length - 1, by omega, by rw [show (c.length - 1 + 1) % c.length = 0 by rw [show c.length - 1 + 1 = c.length by omega, Nat.mod_self]]; exact h6.symm⟩)]
      · intro h6
        obtain rfl : i = 0 := by omega
        rw [hp0] at h6
        exact h5 ((eq_pt _ _).2 h6.symm)
    · have e : i = c.length := by omega
      subst e
      have hnd : ¬dbl c c.length = true := fun h3 => by
        obtain ⟨j, h4, h5⟩ := dbl_iff.1 h3
        obtain ⟨r1, r2⟩ := ringnext h4
        exact hno _ r1 (by rw [r2]; exact h5)
      rw [if_neg hnd]
      have hce : crs c c.length = crsL c c.length := crs_eq (c := c) (ring := true) (by simp; omega) (by simpa [segs] using hnd)
      rw [hce]
      refine ⟨⟨by omega, by omega⟩, ?_⟩
      refine loopF_of (fun E => ∃ i : Nat, i ≤ c.length ∧ (∀ i' k', i' < i → i' < k' → k' < c.length → ¬crossL (gt c) c.length c.length i' k') ∧ E = [(0, chn c), (1, .bool true), (7, .int .i64 c.length), (8, .int .i64 i)])
        (fun E => match lk E 8 with | .int _ i => c.length - i.toNat | _ => 0) ⟨0, by omega, fun _ _ h => absurd h (by omega), rfl⟩ ?_
      rintro _ ⟨i, hi', hnc, rfl⟩
      (refine ev ?_; try with_reducible exact trivial)
      refine ⟨fun h1 => ?_, fun h1 => ?_⟩
      · refine ⟨⟨by omega, by omega⟩, ?_⟩
        refine loopF_of (fun E => ∃ k : Nat, i < k ∧ k ≤ c.length ∧ (∀ k', i < k' → k' < k → ¬crossL (gt c) c.length c.length i k') ∧ E = [(0, chn c), (1, .bool true), (7, .int .i64 c.length), (8, .int .i64 i), (9, .int .i64 k)])
          (fun E => match lk E 9 with | .int _ i => c.length - i.toNat | _ => 0) ⟨i + 1, by omega, by omega, fun _ h2 h3 => absurd h3 (by omega), rfl⟩ ?_
        rintro _ ⟨k, hik, hk, hnc2, rfl⟩
        simp only [evX, evY, evZ, forall_const, implies_true, initE, stepF, D.clean, mvF, moF, tkF, shF, ariF, ciF, catF, scF, ebF, eqF, eqOk, eqPr, enF, notF, ngF, cvF, csF, csbF, lenF, lenSF, ixF, iaF, PX.slot, iaAF, faF, ldF, D.mem, stF, bxF, mkSF, boundF, fldF, ixAF, mmF2, D.plain, D.isPure, optAll, D.dull, callVF, splice, D.cells, D.one, sets, resT, D.flat, D.flat0, D.simple, Nat.reduceBNe, Nat.reduceLT, reduceIte, Nat.reduceEqDiff, Nat.reduceAdd, Nat.reduceMul, Nat.reduceSub, Nat.reduceLeDiff, Int.reduceToNat, Int.reduceLT, Int.reduceLE, Int.reduceEq, Int.reduceNeg, Int.reduceSub, Int.reduceAdd, Int.reduceMul, stG_own, ldC_pts]
        refine ⟨fun h2 => ?_, fun h2 => ?_⟩
        · have m1 : (k + 1) % c.length < c.length := Nat.mod_lt _ (by omega)
          have e2 : ((k : Int) + 1).tmod (c.length : Int) = (((k + 1) % c.length : Nat) : Int) := rfl
          have e3 : ((i : Int) + 1).toNat = i + 1 := by omega
          have e4 : (i + 1) % c.length = i + 1 := Nat.mod_eq_of_lt (by omega)
          have hz : ∀ j, j < c.length → Sz 30 (gt c j) := fun j hj => hsz _ (List.mem_of_getElem? (hg j hj))
          have cm := Tryz.lmeet (gt c i) (gt c (i + 1)) (gt c k) (gt c ((k + 1) % c.length)) (hz _ (by omega)) (hz _ (by omega)) (hz _ (by omega)) (hz _ m1)
          obtain ⟨x, y, hlm⟩ := lmD_num (gt c i) (gt c (i + 1)) (gt c k) (gt c ((k + 1) % c.length))
          rw [hlm] at cm
          have hcr : crossL (gt c) c.length c.length i k ↔ (if k = i + 1 ∨ (i = 0 ∧ k = c.length - 1) then 1 else 0) < (meetL (gt c i) (gt c (i + 1)) (gt c k) (gt c ((k + 1) % c.length))).num := by
            unfold crossL
            rw [e4]
            have : next c.length c.length i k ↔ k = i + 1 ∨ (i = 0 ∧ k = c.length - 1) := by unfold next; simp
            simp only [this]
          generalize (meetL (gt c i) (gt c (i + 1)) (gt c k) (gt c ((k + 1) % c.length))).num = nm at *
          rw [e2, e3]
          simp only [Int.toNat_natCast]
          refine ⟨⟨by omega, by omega, by rw [pts_len]; omega⟩, _, hg i (by omega), ⟨by omega, by omega⟩, ⟨by omega, by omega, by rw [pts_len]; omega⟩, _, hg (i + 1) (by omega), ⟨by omega, by omega, by rw [pts_len]; omega⟩, _, hg k (by omega), ⟨by omega, by omega⟩, by omega, ⟨by omega, by omega, by rw [pts_len]; omega⟩, _, hg _ m1, ?_⟩
          refine callF_of cm ?_
          (refine ev ?_; try with_reducible exact trivial)
          have yes : crossL (gt c) c.length c.length i k → (26 : Int) = if crsL c c.length = true then 26 else 0 := fun hc => by rw [if_pos (crsL_iff.2 ⟨i, k, hik, by omega, hc⟩)]
          have no : ¬crossL (gt c) c.length c.length i k → ∃ k_1, i < k_1 ∧ k_1 ≤ c.length ∧ (∀ (k' : Nat), i < k' → k' < k_1 → ¬crossL (gt c) c.length c.length i k') ∧ ((9 : Nat), D.int IntKind.i64 ((k : Int) + 1)) = (9, D.int IntKind.i64 (k_1 : Int)) := fun hc => ⟨k + 1, by omega, by omega, fun k' h3 h4 => by
            by_cases e : k' = k
            · rw [e]; exact hc
            · exact hnc2 k' h3 (by omega), by simp⟩
          refine ⟨⟨by omega, by omega⟩, fun h5 => ⟨fun h7 => ⟨⟨by omega, by omega⟩, fun h8 => ⟨fun h6 => yes (hcr.2 (by rw [if_pos (show k = i + 1 ∨ (i = 0 ∧ k = c.length - 1) by omega)]; omega)), fun h6 => ⟨⟨by omega, by omega⟩, no (fun hc => by have := hcr.1 hc; rw [if_pos (show k = i + 1 ∨ (i = 0 ∧ k = c.length - 1) by omega)] at this; omega), by omega⟩⟩, fun h8 => ⟨fun h6 => yes (hcr.2 (by rw [if_neg (show ¬(k = i + 1 ∨ (i = 0 ∧ k = c.length - 1)) by omega)]; omega)), fun h6 => ⟨⟨by omega, by omega⟩, no (fun hc => by have := hcr.1 hc; rw [if_neg (show ¬(k = i + 1 ∨ (i = 0 ∧ k = c.length - 1)) by omega)] at this; omega), by omega⟩⟩⟩, fun h7 => ⟨fun h6 => yes (hcr.2 (by rw [if_neg (show ¬(k = i + 1 ∨ (i = 0 ∧ k = c.length - 1)) by omega)]; omega)), fun h6 => ⟨⟨by omega, by omega⟩, no (fun hc => by have := hcr.1 hc; rw [if_neg (show ¬(k = i + 1 ∨ (i = 0 ∧ k = c.length - 1)) by omega)] at this; omega), by omega⟩⟩⟩, fun h5 => ⟨fun h6 => yes (hcr.2 (by rw [if_pos (show k = i + 1 ∨ (i = 0 ∧ k = c.length - 1) by omega)]; omega)), fun h6 => ⟨⟨by omega, by omega⟩, no (fun hc => by have := hcr.1 hc; rw [if_pos (show k = i + 1 ∨ (i = 0 ∧ k = c.length - 1) by omega)] at this; omega), by omega⟩⟩⟩
        · refine ⟨⟨by omega, by omega⟩, ⟨i + 1, by omega, fun i' k' h3 h4 h5 => ?_, by simp⟩, by omega⟩
          by_cases e : i' = i
          · rw [e] at h4 ⊢; exact hnc2 k' h4 (by omega)
          · exact hnc i' k' (by omega) h4 h5
      · rw [if_neg (fun h => by obtain ⟨i', k', h3, h4, h5⟩ := crsL_iff.1 h; exact hnc i' k' (by omega) h3 h4 h5)]
end Go.Proofs

/-
  POLYLINE: Crossings. Own work.
-/
namespace Go.Proofs
open Go Go.Pi Go.RowKit Go.Ar Go.Ge

def crD (x : Cr) : List D := [.int .i64 x.1, .int .i64 x.2.1, .str (rt x.2.2.1), .str (rt x.2.2.2)]
theorem crD_len (x : Cr) : (crD x).length = 4 := rfl
abbrev crl (l : List Cr) : List D := rows crD l
theorem crl_len (l : List Cr) : (crl l).length = l.length * 4 := rows_length crD_len l
theorem crl_snoc (l : List Cr) (x : Cr) : crl (l ++ [x]) = crl l ++ crD x := rows_snoc
/-- what Crossings returns -/
def crR (M : Nat → Nat → Mt) (na nb : Nat) : D := if ovC M na nb = true then .tup [.sl 0 [], .int .i64 7] else .tup [.sl (outC M nb na).length (crl (outC M nb na)), .int .i64 0]
theorem crR_al (M : Nat → Nat → Mt) (na nb : Nat) : aliasOf (crR M na nb) = none := by unfold crR; split <;> rfl
theorem Tryz.pcr1 (x : Cr) (h : Sz 200 x.2.2) : Con Tryz.prog Tryz.L 48 [.agg (crD x)] (.bool false) := by
  refine rule48 Tryz.hL rfl rfl rfl ?_
  simp only [crD, pc48, rs48, oU, oC, evX, evY, evZ, forall_const, implies_true, initE, stepF, D.clean, mvF, moF, tkF, shF, ariF, ciF, catF, scF, ebF, eqF, eqOk, eqPr, enF, notF, ngF, cvF, csF, csbF, lenF, lenSF, ixF, iaF, PX.slot, iaAF, faF, ldF, D.mem, stF, bxF, mkSF, boundF, fldF, ixAF, mmF2, D.plain, D.isPure, optAll, D.dull, callVF, splice, D.cells, D.one, sets, resT, D.flat, D.flat0, D.simple, Nat.reduceBNe, Nat.reduceLT, reduceIte, Nat.reduceEqDiff, Nat.reduceAdd, Nat.reduceMul, Nat.reduceSub, Nat.reduceLeDiff, Int.reduceToNat, Int.reduceLT, Int.reduceLE, Int.reduceEq, Int.reduceNeg, Int.reduceSub, Int.reduceAdd, Int.reduceMul, stG_own]
  refine callF_of (Tryz.ppoint x.2.2 h) ?_
  (refine ev ?_; try with_reducible exact trivial)
theorem ldC_crl {l : List Cr} {k t : Nat} {N : EP} {E : Env} : ldC true 4 (List.take 4 (List.drop (k * 4) (crl l))) t N E = (∃ x, l[k]? = some x ∧ N (st1 E t (.agg (crD x)))) := by
  unfold ldC
  cases h : l[k]? with
  | none =>
    have hk : l.length ≤ k := by simpa using h
    have e : List.take 4 (List.drop (k * 4) (crl l)) = [] := by rw [List.drop_eq_nil_of_le (by rw [rows_length crD_len]; omega)]; rfl
    rw [e]; simp [ofCells]
  | some x =>
    obtain ⟨r, e⟩ := rows_at crD_len h
    have e2 : List.take 4 (List.drop (k * 4) (crl l)) = crD x := by rw [e]; rfl
    rw [e2]
    simp [ofCells, crD]
set_option maxHeartbeats 4000000 in
theorem Tryz.pcrIdx (l : List Cr) (hl : l.length ≤ 1000) (h : ∀ x ∈ l, Sz 200 x.2.2) : Con Tryz.prog Tryz.L 98 [.sl l.length (crl l), .clo 48 []] (.int .i64 (-1)) := by
  refine rule98 Tryz.hL rfl rfl rfl ?_
  (simp only [pc98, rs98, oU, oC]; refine ev ?_; try with_reducible exact trivial)
  refine loopF_of (fun E => ∃ k : Nat, k ≤ l.length ∧ E = [(0, .sl l.length (crl l)), (1, .clo 48 []), (7, .int .i64 l.length), (8, .int .i64 k)])
    (fun E => match lk E 8 with | .int _ i => l.length - i.toNat | _ => 0) ⟨0, by omega, rfl⟩ ?_
  rintro _ ⟨k, hk, rfl⟩
  simp only [evX, evY, evZ, forall_const, implies_true, initE, stepF, D.clean, mvF, moF, tkF, shF, ariF, ciF, catF, scF, ebF, eqF, eqOk, eqPr, enF, notF, ngF, cvF, csF, csbF, lenF, lenSF, ixF, iaF, PX.slot, iaAF, faF, ldF, D.mem, stF, bxF, mkSF, boundF, fldF, ixAF, mmF2, D.plain, D.isPure, optAll, D.dull, callVF, splice, D.cells, D.one, sets, resT, D.flat, D.flat0, D.simple, Nat.reduceBNe, Nat.reduceLT, reduceIte, Nat.reduceEqDiff, Nat.reduceAdd, Nat.reduceMul, Nat.reduceSub, Nat.reduceLeDiff, Int.reduceToNat, Int.reduceLT, Int.reduceLE, Int.reduceEq, Int.reduceNeg, Int.reduceSub, Int.reduceAdd, Int.reduceMul, stG_own, ldC_crl]
  · intro h1
    have hx : l[k]? = some (l[k]'(by omega)) := List.getElem?_eq_getElem (by omega)
    generalize l[k]'(by omega) = x at hx
    refine ⟨⟨by omega, by omega, by rw [crl_len]; omega⟩, x, hx, ?_⟩
    have hc := Tryz.pcr1 x (h x (List.mem_of_getElem? hx))
    simp only [crD, evX, evY, evZ, forall_const, implies_true, initE, stepF, D.clean, mvF, moF, tkF, shF, ariF, ciF, catF, scF, ebF, eqF, eqOk, eqPr, enF, notF, ngF, cvF, csF, csbF, lenF, lenSF, ixF, iaF, PX.slot, iaAF, faF, ldF, D.mem, stF, bxF, mkSF, boundF, fldF, ixAF, mmF2, D.plain, D.isPure, optAll, D.dull, callVF, splice, D.cells, D.one, sets, resT, D.flat, D.flat0, D.simple, Nat.reduceBNe, Nat.reduceLT, reduceIte, Nat.reduceEqDiff, Nat.reduceAdd, Nat.reduceMul, Nat.reduceSub, Nat.reduceLeDiff, Int.reduceToNat, Int.reduceLT, Int.reduceLE, Int.reduceEq, Int.reduceNeg, Int.reduceSub, Int.reduceAdd, Int.reduceMul, stG_own] at hc ⊢
    refine callF_of hc ?_
    (refine ev ?_; try with_reducible exact trivial)
    exact ⟨⟨by omega, by omega⟩, ⟨k + 1, by omega, by simp⟩, by omega⟩
theorem Tryz.pcrHas (l : List Cr) (hl : l.length ≤ 1000) (h : ∀ x ∈ l, Sz 200 x.2.2) : Con Tryz.prog Tryz.L 47 [.sl l.length (crl l), .clo 48 []] (.bool false) := by
  refine rule47 Tryz.hL rfl rfl rfl ?_
  (simp only [pc47, rs47, oU, oC]; refine ev ?_; try with_reducible exact trivial)
  refine callF_of (Tryz.pcrIdx l hl h) ?_
  (refine ev ?_; try with_reducible exact trivial)
  try rfl
/-- the place at which small segments meet is small -/
theorem sz_meetP {a b c d p : Pt} (ha : Sz 2 a) (hb : Sz 2 b) (hc : Sz 2 c) (hd : Sz 2 d) (h : meetP a b c d = .touch p) : Sz 100 p := by
  unfold meetP at h
  split at h
  · have hm : ∀ {x y : Pt}, Sz 2 x → Sz 2 y → Sz 2 (mn x y) ∧ Sz 2 (mx x y) := fun hx hy => by
      unfold mn mx; split <;> exact ⟨by assumption, by assumption⟩
    unfold colP at h
    simp only at h
    split at h
    · cases h
      exact (hm (hm ha hb).1 (hm hc hd).1).2.more (by decide)
    · split at h <;> cases h
  · split at h
    · cases h
    · cases h
      have r1 : rd (ar a b c) ≤ 21 := by
        unfold ar
        have s1 := rd_sub b.1 a.1; have s2 := rd_sub c.2 a.2; have s3 := rd_sub b.2 a.2; have s4 := rd_sub c.1 a.1
        have m1 := rd_mul (b.1 - a.1) (c.2 - a.2); have m2 := rd_mul (b.2 - a.2) (c.1 - a.1)
        have := rd_sub ((b.1 - a.1) * (c.2 - a.2)) ((b.2 - a.2) * (c.1 - a.1))
        have := ha.1; have := ha.2; have := hb.1; have := hb.2; have := hc.1; have := hc.2
        omega
      have r2 : rd (ar a b d) ≤ 21 := by
        unfold ar
        have s1 := rd_sub b.1 a.1; have s2 := rd_sub d.2 a.2; have s3 := rd_sub b.2 a.2; have s4 := rd_sub d.1 a.1
        have m1 := rd_mul (b.1 - a.1) (d.2 - a.2); have m2 := rd_mul (b.2 - a.2) (d.1 - a.1)
        have := rd_sub ((b.1 - a.1) * (d.2 - a.2)) ((b.2 - a.2) * (d.1 - a.1))
        have := ha.1; have := ha.2; have := hb.1; have := hb.2; have := hd.1; have := hd.2
        omega
      have r3 := rd_sub (ar a b c) (ar a b d)
      have r4 := rd_div (ar a b c) (ar a b c - ar a b d)
      have hc1 := hc.1; have hc2 := hc.2; have hd1 := hd.1; have hd2 := hd.2
      have r5 := rd_sub d.1 c.1
      have r6 := rd_sub d.2 c.2
      have r7 := rd_mul (ar a b c / (ar a b c - ar a b d)) (d.1 - c.1)
      have r8 := rd_mul (ar a b c / (ar a b c - ar a b d)) (d.2 - c.2)
      have r9 := rd_add c.1 (ar a b c / (ar a b c - ar a b d) * (d.1 - c.1))
      have r10 := rd_add c.2 (ar a b c / (ar a b c - ar a b d) * (d.2 - c.2))
      exact ⟨show rd (c.1 + ar a b c / (ar a b c - ar a b d) * (d.1 - c.1)) ≤ 100 by omega, show rd (c.2 + ar a b c / (ar a b c - ar a b d) * (d.2 - c.2)) ≤ 100 by omega⟩
theorem gt_sz {c : List Pt} {k : Nat} (h : ∀ p ∈ c, Sz k p) {j : Nat} (hj : j < c.length) : Sz k (gt c j) :=
  h _ (List.mem_of_getElem? (show c[j]? = some (gt c j) by rw [List.getElem?_eq_getElem hj]; simp [gt, List.getD_eq_getElem?_getD, hj]))
set_option maxRecDepth 100000 in
set_option maxHeartbeats 8000000 in
theorem Tryz.pcrossings (a b : List Pt) (ha : a.length ≤ 10) (hb : b.length ≤ 10) (hza : ∀ p ∈ a, Sz 2 p) (hzb : ∀ p ∈ b, Sz 2 p) (hga : good a = true) (hgb : good b = true) : Con Tryz.prog Tryz.L 14 [chn a, chn b] (crR (mP a b) (a.length - 1) (b.length - 1)) := by
  have hca : chkN a false = 0 := by simpa [good] using hga
  have hcb : chkN b false = 0 := by simpa [good] using hgb
  have la := good_len hga
  have lb := good_len hgb
  have ca := Tryz.pcheckL a (by omega) (fun p hp => (hza p hp).more (by decide))
  have cb := Tryz.pcheckL b (by omega) (fun p hp => (hzb p hp).more (by decide))
  rw [hca] at ca
  rw [hcb] at cb
  have hA : ∀ j, j < a.length → a[j]? = some (gt a j) := fun j hj => by
    rw [List.getElem?_eq_getElem hj]; simp [gt, List.getD_eq_getElem?_getD, hj]
  have hB : ∀ j, j < b.length → b[j]? = some (gt b j) := fun j hj => by
    rw [List.getElem?_eq_getElem hj]; simp [gt, List.getD_eq_getElem?_getD, hj]
  obtain ⟨na, hna⟩ : ∃ na, a.length = na + 1 := ⟨a.length - 1, by omega⟩
  obtain ⟨nb, hnb⟩ : ∃ nb, b.length = nb + 1 := ⟨b.length - 1, by omega⟩
  rw [show a.length - 1 = na by omega, show b.length - 1 = nb by omega]
  refine rule14 Tryz.hL (crR_al _ _ _) rfl rfl ?_
  (simp only [pc14, rs14, oU, oC]; refine ev ?_; try with_reducible exact trivial)
  refine loopF_of (fun E => ∃ k : Nat, k ≤ 2 ∧ E = [(0, chn a), (1, chn b), (16, .agg [chn a, chn b]), (17, .int .i64 k)])
    (fun E => match lk E 17 with | .int _ i => 2 - i.toNat | _ => 0) ⟨0, by omega, rfl⟩ ?_
  rintro _ ⟨k, hk, rfl⟩
  obtain rfl | rfl | rfl : k = 0 ∨ k = 1 ∨ k = 2 := by omega
  · (refine ev ?_; try with_reducible exact trivial)
    refine ⟨fun _ => ⟨by decide, ?_⟩, fun h => absurd (by decide) h⟩
    refine callF_of ca ?_
    (refine ev ?_; try with_reducible exact trivial)
    exact ⟨by decide, ⟨1, by omega, rfl⟩, by decide⟩
  · (refine ev ?_; try with_reducible exact trivial)
    refine ⟨fun _ => ⟨by decide, ?_⟩, fun h => absurd (by decide) h⟩
    refine callF_of cb ?_
    (refine ev ?_; try with_reducible exact trivial)
    exact ⟨by decide, ⟨2, by omega, rfl⟩, by decide⟩
  · (refine ev ?_; try with_reducible exact trivial)
    have e1 : (a.length : Int) - 1 = (na : Int) := by omega
    have e2 : (b.length : Int) - 1 = (nb : Int) := by omega
    refine ⟨fun h => absurd h (by decide), fun _ => ⟨⟨by omega, by omega⟩, ?_⟩⟩
    rw [e1]
    refine loopF_of (fun E => ∃ i : Nat, i ≤ na ∧ (∀ i' k', i' < i → k' < nb → (mP a b i' k').isOver = false) ∧ E = [(0, chn a), (1, chn b), (9, .own true 37 (outC (mP a b) nb i).length (crl (outC (mP a b) nb i))), (28, .int .i64 na), (29, .int .i64 i)])
      (fun E => match lk E 29 with | .int _ i => na - i.toNat | _ => 0) ⟨0, by omega, fun _ _ h => absurd h (by omega), rfl⟩ ?_
    rintro _ ⟨i, hi, hno, rfl⟩
    (refine ev ?_; try with_reducible exact trivial)
    refine ⟨fun h1 => ⟨⟨by omega, by omega⟩, ?_⟩, fun h1 => ?_⟩
    · rw [e2]
      refine loopF_of (fun E => ∃ k : Nat, k ≤ nb ∧ (∀ k', k' < k → (mP a b i k').isOver = false) ∧ E = [(0, chn a), (1, chn b), (9, .own true 37 (outC (mP a b) nb i ++ rowC (mP a b) i k).length (crl (outC (mP a b) nb i ++ rowC (mP a b) i k))), (10, .int .i64 i), (28, .int .i64 na), (29, .int .i64 i), (34, .int .i64 nb), (35, .int .i64 k)])
        (fun E => match lk E 35 with | .int _ i => nb - i.toNat | _ => 0) ⟨0, by omega, fun _ h => absurd h (by omega), by rw [show rowC (mP a b) i 0 = [] from rfl, List.append_nil]; rfl⟩ ?_
      rintro _ ⟨k, hk, hno2, rfl⟩
      simp only [evX, evY, evZ, forall_const, implies_true, initE, stepF, D.clean, mvF, moF, tkF, shF, ariF, ciF, catF, scF, ebF, eqF, eqOk, eqPr, enF, notF, ngF, cvF, csF, csbF, lenF, lenSF, ixF, iaF, PX.slot, iaAF, faF, ldF, D.mem, stF, bxF, mkSF, boundF, fldF, ixAF, mmF2, D.plain, D.isPure, optAll, D.dull, callVF, splice, D.cells, D.one, sets, resT, D.flat, D.flat0, D.simple, Nat.reduceBNe, Nat.reduceLT, reduceIte, Nat.reduceEqDiff, Nat.reduceAdd, Nat.reduceMul, Nat.reduceSub, Nat.reduceLeDiff, Int.reduceToNat, Int.reduceLT, Int.reduceLE, Int.reduceEq, Int.reduceNeg, Int.reduceSub, Int.reduceAdd, Int.reduceMul, stG_own, ldC_pts]
      have hol : (outC (mP a b) nb i ++ rowC (mP a b) i k).length ≤ 1000 := by
        rw [List.length_append]
        have h1 := outC_len (mP a b) nb i
        have h2 := rowC_len (mP a b) i k
        have h3 : i * nb ≤ 9 * 9 := Nat.mul_le_mul (by omega) (by omega)
        omega
      refine ⟨fun h2 => ?_, fun h2 => ?_⟩
      · have e3 : ((i : Int) + 1).toNat = i + 1 := by omega
        have e4 : ((k : Int) + 1).toNat = k + 1 := by omega
        rw [e3, e4]
        refine ⟨⟨by omega, by omega, by rw [pts_len]; omega⟩, _, hA i (by omega), ⟨by omega, by omega⟩, ⟨by omega, by omega, by rw [pts_len]; omega⟩, _, hA (i + 1) (by omega), ⟨by omega, by omega, by rw [pts_len]; omega⟩, _, hB k (by omega), ⟨by omega, by omega⟩, ⟨by omega, by omega, by rw [pts_len]; omega⟩, _, hB (k + 1) (by omega), ?_⟩
        have cm : Con Tryz.prog Tryz.L 46 [ptD (gt a i), ptD (gt a (i + 1)), ptD (gt b k), ptD (gt b (k + 1))] (mtD (mP a b i k)) := Tryz.pmeet (gt a i) (gt a (i + 1)) (gt b k) (gt b (k + 1)) ((gt_sz hza (by omega)).more (by decide)) ((gt_sz hza (by omega)).more (by decide)) ((gt_sz hzb (by omega)).more (by decide)) ((gt_sz hzb (by omega)).more (by decide))
        have hrow : rowC (mP a b) i (k + 1) = rowC (mP a b) i k ++ (mP a b i k).tch i k := rfl
        have hov : (mP a b i k).isOver = true → crR (mP a b) na nb = .tup [.sl 0 [], .int .i64 7] := fun h => if_pos (ovC_iff.2 ⟨i, k, by omega, by omega, h⟩)
        have hno3 : (mP a b i k).isOver = false → ∀ k', k' < k + 1 → (mP a b i k').isOver = false := fun h k' hk' => by
          by_cases e : k' = k
          · rw [e]; exact h
          · exact hno2 k' (by omega)
        refine callF_of cm ?_
        clear cm
        cases hm : mP a b i k with
        | apart =>
          rw [hm] at hrow hno3
          rw [show Mt.tch i k .apart = [] from rfl, List.append_nil] at hrow
          simp only [mtD, ptD, evX, evY, evZ, forall_const, implies_true, initE, stepF, D.clean, mvF, moF, tkF, shF, ariF, ciF, catF, scF, ebF, eqF, eqOk, eqPr, enF, notF, ngF, cvF, csF, csbF, lenF, lenSF, ixF, iaF, PX.slot, iaAF, faF, ldF, D.mem, stF, bxF, mkSF, boundF, fldF, ixAF, mmF2, D.plain, D.isPure, optAll, D.dull, callVF, splice, D.cells, D.one, sets, resT, D.flat, D.flat0, D.simple, Nat.reduceBNe, Nat.reduceLT, reduceIte, Nat.reduceEqDiff, Nat.reduceAdd, Nat.reduceMul, Nat.reduceSub, Nat.reduceLeDiff, Int.reduceToNat, Int.reduceLT, Int.reduceLE, Int.reduceEq, Int.reduceNeg, Int.reduceSub, Int.reduceAdd, Int.reduceMul, stG_own, ldC_pts]
          exact ⟨⟨by omega, by omega⟩, ⟨k + 1, by omega, hno3 rfl, by rw [hrow], by simp⟩, by omega⟩
        | over =>
          rw [hm] at hov
          simp only [mtD, ptD, evX, evY, evZ, forall_const, implies_true, initE, stepF, D.clean, mvF, moF, tkF, shF, ariF, ciF, catF, scF, ebF, eqF, eqOk, eqPr, enF, notF, ngF, cvF, csF, csbF, lenF, lenSF, ixF, iaF, PX.slot, iaAF, faF, ldF, D.mem, stF, bxF, mkSF, boundF, fldF, ixAF, mmF2, D.plain, D.isPure, optAll, D.dull, callVF, splice, D.cells, D.one, sets, resT, D.flat, D.flat0, D.simple, Nat.reduceBNe, Nat.reduceLT, reduceIte, Nat.reduceEqDiff, Nat.reduceAdd, Nat.reduceMul, Nat.reduceSub, Nat.reduceLeDiff, Int.reduceToNat, Int.reduceLT, Int.reduceLE, Int.reduceEq, Int.reduceNeg, Int.reduceSub, Int.reduceAdd, Int.reduceMul, stG_own, ldC_pts]
          rw [hov rfl]
          rfl
        | touch p =>
          rw [hm] at hrow hno3
          simp only [mtD, ptD, evX, evY, evZ, forall_const, implies_true, initE, stepF, D.clean, mvF, moF, tkF, shF, ariF, ciF, catF, scF, ebF, eqF, eqOk, eqPr, enF, notF, ngF, cvF, csF, csbF, lenF, lenSF, ixF, iaF, PX.slot, iaAF, faF, ldF, D.mem, stF, bxF, mkSF, boundF, fldF, ixAF, mmF2, D.plain, D.isPure, optAll, D.dull, callVF, splice, D.cells, D.one, sets, resT, D.flat, D.flat0, D.simple, Nat.reduceBNe, Nat.reduceLT, reduceIte, Nat.reduceEqDiff, Nat.reduceAdd, Nat.reduceMul, Nat.reduceSub, Nat.reduceLeDiff, Int.reduceToNat, Int.reduceLT, Int.reduceLE, Int.reduceEq, Int.reduceNeg, Int.reduceSub, Int.reduceAdd, Int.reduceMul, stG_own, ldC_pts]
          refine ⟨by omega, by omega, ⟨by omega, by omega⟩, ⟨k + 1, by omega, hno3 rfl, ?_, by simp⟩, by omega⟩
          have e5 := crl_snoc (outC (mP a b) nb i ++ rowC (mP a b) i k) (i, k, p)
          rw [hrow, show Mt.tch i k (.touch p) = [(i, k, p)] from rfl, ← List.append_assoc, e5]
          generalize outC (mP a b) nb i ++ rowC (mP a b) i k = o
          rw [List.length_append]
          rfl
      · refine ⟨⟨by omega, by omega⟩, ⟨i + 1, by omega, fun i' k' h3 h4 => ?_, ?_, by simp⟩, by omega⟩
        · by_cases e : i' = i
          · rw [e]; exact hno2 k' (by omega)
          · exact hno i' k' (by omega) h4
        · have e : k = nb := by omega
          rw [e]; rfl
    · have hol : (outC (mP a b) nb i).length ≤ 1000 := by
        have h1 := outC_len (mP a b) nb i
        have h3 : i * nb ≤ 9 * 9 := Nat.mul_le_mul (by omega) (by omega)
        omega
      have e : i = na := by omega
      subst e
      have hz : ∀ x ∈ outC (mP a b) nb i, Sz 200 x.2.2 := fun x hx => by
        obtain ⟨h1, h2, h3⟩ := mem_outC hx
        exact (sz_meetP (gt_sz hza (by omega)) (gt_sz hza (by omega)) (gt_sz hzb (by omega)) (gt_sz hzb (by omega)) h3).more (by decide)
      refine callF_of (Tryz.pcrHas _ hol hz) ?_
      (refine ev ?_; try with_reducible exact trivial)
      have hnov : ¬ovC (mP a b) i nb = true := fun h => by
        obtain ⟨i', k', h3, h4, h5⟩ := ovC_iff.1 h
        rw [hno i' k' h3 h4] at h5; cases h5
      unfold crR
      rw [if_neg hnov]
      rfl
end Go.Proofs

/-
  POLYLINE: the law's crossings. Own work.
-/
namespace Go.Proofs
open Go Go.Pi Go.RowKit Go.Ar Go.Ge

/-- what the law's crossings returns -/
def crL (M : Nat → Nat → Mt) (na nb : Nat) : D := if ovC M na nb = true then .tup [.sl 0 [], .bool true] else .tup [.sl (outC M nb na).length (crl (outC M nb na)), .bool false]
end Go.Proofs

/-
  POLYLINE: the chapter's examples. Own work.
-/
namespace Go.Proofs
open Go Go.Pi Go.RowKit Go.Ar Go.Ge

def exA : List Pt := [(0, 0), (4, 0)]
def exB : List Pt := [(1, -1), (1, 1), (3, 1), (3, -1)]
def exC : List Pt := [(0, 0), (1, 0), (2, 1), (4, 0)]
def exD : List Pt := [(0, 0), (2, 0), (2, 2)]
def szB (k : Nat) (l : List Pt) : Bool := l.all fun p => decide (rd p.1 ≤ k) && decide (rd p.2 ≤ k)
theorem sz_of_B {k : Nat} {l : List Pt} (h : szB k l = true) : ∀ p ∈ l, Sz k p := fun p hp => by
  have := List.all_eq_true.1 h p hp
  simpa [Sz] using this
theorem Tryz.kCross : Con Tryz.prog Tryz.L 14 [.sl 2 [.str [48], .str [48], .str [52], .str [48]], .sl 4 [.str [49], .str [45, 49], .str [49], .str [49], .str [51], .str [49], .str [51], .str [45, 49]]]
    (.tup [.sl 2 [.int .i64 0, .int .i64 0, .str [49], .str [48], .int .i64 0, .int .i64 2, .str [51], .str [48]], .int .i64 0]) := by
  have h := Tryz.pcrossings exA exB (by decide) (by decide) (sz_of_B (by decide +kernel)) (sz_of_B (by decide +kernel)) (by decide +kernel) (by decide +kernel)
  rw [show crR (mP exA exB) (exA.length - 1) (exB.length - 1) = .tup [.sl 2 [.int .i64 0, .int .i64 0, .str [49], .str [48], .int .i64 0, .int .i64 2, .str [51], .str [48]], .int .i64 0] by
    have e1 : ovC (mP exA exB) (exA.length - 1) (exB.length - 1) = false := by decide +kernel
    have e2 : outC (mP exA exB) (exB.length - 1) (exA.length - 1) = [(0, 0, (1, 0)), (0, 2, (3, 0))] := by decide +kernel
    have e3 : crl [(0, 0, ((1 : Rat), (0 : Rat))), (0, 2, ((3 : Rat), (0 : Rat)))] = [.int .i64 0, .int .i64 0, .str [49], .str [48], .int .i64 0, .int .i64 2, .str [51], .str [48]] := by kernel_rfl
    rw [crR, e1, e2, e3, if_neg (by decide)]
    rfl] at h
  rw [show chn exA = .sl 2 [.str [48], .str [48], .str [52], .str [48]] by kernel_rfl, show chn exB = .sl 4 [.str [49], .str [45, 49], .str [49], .str [49], .str [51], .str [49], .str [51], .str [45, 49]] by kernel_rfl] at h
  exact h
theorem Tryz.kSimp : Con Tryz.prog Tryz.L 16 [.sl 4 [.str [48], .str [48], .str [49], .str [48], .str [50], .str [49], .str [52], .str [48]], .str [49]]
    (.tup [.sl 3 [.str [48], .str [48], .str [50], .str [49], .str [52], .str [48]], .int .i64 0]) := by
  have h := Tryz.psimplify exC 1 (by decide) (sz_of_B (by decide +kernel)) (by decide +kernel) (by decide +kernel) (by decide +kernel)
  rw [show simp 1 exC.length exC = [(0, 0), (2, 1), (4, 0)] by decide +kernel, show rt 1 = [49] by kernel_rfl, show chn exC = .sl 4 [.str [48], .str [48], .str [49], .str [48], .str [50], .str [49], .str [52], .str [48]] by kernel_rfl, show chn [((0 : Rat), (0 : Rat)), ((2 : Rat), (1 : Rat)), ((4 : Rat), (0 : Rat))] = .sl 3 [.str [48], .str [48], .str [50], .str [49], .str [52], .str [48]] by kernel_rfl] at h
  exact h
theorem Tryz.kArea : Con Tryz.prog Tryz.L 30 [.sl 3 [.str [48], .str [48], .str [50], .str [48], .str [50], .str [50]]] (.tup [.str [52], .int .i64 0]) := by
  have h := Tryz.pareaR exD (by decide) (sz_of_B (by decide +kernel)) (by decide +kernel) (by decide +kernel)
  rw [show totK exD exD.length = 4 by decide +kernel, show rt 4 = [52] by kernel_rfl, show chn exD = .sl 3 [.str [48], .str [48], .str [50], .str [48], .str [50], .str [50]] by kernel_rfl] at h
  exact h
set_option maxRecDepth 100000 in
set_option maxHeartbeats 4000000 in
theorem Tryz.known11 : Con Tryz.prog Tryz.L 11 [] (.bool true) := by
  refine rule11 Tryz.hL rfl rfl rfl ?_
  (simp only [pc11, rs11, oU, oC]; refine ev ?_; try with_reducible exact trivial)
  refine callF_of Tryz.kCross ?_
  (refine ev ?_; try with_reducible exact trivial)
  refine callF_of Tryz.kSimp ?_
  (refine ev ?_; try with_reducible exact trivial)
  refine callF_of Tryz.kArea ?_
  (refine ev ?_; try with_reducible exact trivial)
  decide
end Go.Proofs

/-
  POLYLINE: the law PolylineCrosses. Own work.
-/
namespace Go.Proofs
open Go Go.Pi Go.RowKit Go.Ar Go.Ge

end Go.Proofs

/-
  POLYLINE: the law's without, Same. Own work.
-/
namespace Go.Proofs
open Go Go.Pi Go.RowKit Go.Ar Go.Ge

end Go.Proofs

/-
  POLYLINE: Has, Locate; the law's locate. Own work.
-/
namespace Go.Proofs
open Go Go.Pi Go.RowKit Go.Ar Go.Ge

set_option maxHeartbeats 4000000 in
theorem Tryz.pnumbersG (x y : List UInt8) (hx : x.length ≤ 1000000) (hy : y.length ≤ 1000000) : Con Tryz.prog Tryz.L 84 [.sl 2 [.str x, .str y]] (.int .i64 (chk (okR x ∧ okR y))) := by
  refine rule84 Tryz.hL rfl rfl rfl ?_
  (simp only [pc84, rs84, oU, oC]; refine ev ?_; try with_reducible exact trivial)
  refine loopF_of (fun E => ∃ k : Nat, k ≤ 2 ∧ (0 < k → okR x) ∧ (1 < k → okR y) ∧ E = [(6, .sl 2 [.str x, .str y]), (7, .int .i64 2), (8, .int .i64 k)])
    (fun E => match lk E 8 with | .int _ i => 2 - i.toNat | _ => 0) ⟨0, by omega, by omega, by omega, rfl⟩ ?_
  rintro _ ⟨k, hk, h0, h1, rfl⟩
  obtain rfl | rfl | rfl : k = 0 ∨ k = 1 ∨ k = 2 := by omega
  · (refine ev ?_; try with_reducible exact trivial)
    refine ⟨fun _ => ⟨⟨by decide, by decide⟩, ?_⟩, fun h => absurd (by decide) h⟩
    refine callF_of (Tryz.rcheck x hx) ?_
    (refine ev ?_; try with_reducible exact trivial)
    refine ⟨fun h => ?_, fun h => ⟨⟨by decide, by decide⟩, ⟨1, by omega, fun _ => chk_0.1 (Classical.not_not.1 h), by omega, rfl⟩, by decide⟩⟩
    rw [chk_f (fun hh : okR x ∧ okR y => h (chk_0.2 hh.1))]
    exact chk_f (fun hh => h (chk_0.2 hh))
  · (refine ev ?_; try with_reducible exact trivial)
    refine ⟨fun _ => ⟨⟨by decide, by decide⟩, ?_⟩, fun h => absurd (by decide) h⟩
    refine callF_of (Tryz.rcheck y hy) ?_
    (refine ev ?_; try with_reducible exact trivial)
    refine ⟨fun h => ?_, fun h => ⟨⟨by decide, by decide⟩, ⟨2, by omega, fun _ => h0 (by omega), fun _ => chk_0.1 (Classical.not_not.1 h), rfl⟩, by decide⟩⟩
    rw [chk_f (fun hh : okR x ∧ okR y => h (chk_0.2 hh.2))]
    exact chk_f (fun hh => h (chk_0.2 hh))
  · (refine ev ?_; try with_reducible exact trivial)
    rw [chk_t ⟨h0 (by omega), h1 (by omega)⟩]
    exact ⟨fun h => absurd h (by decide), fun _ => rfl⟩
theorem Tryz.ppointG (x y : List UInt8) (hx : x.length ≤ 1000000) (hy : y.length ≤ 1000000) : Con Tryz.prog Tryz.L 49 [.agg [.str x, .str y]] (.int .i64 (chk (okR x ∧ okR y))) := by
  refine rule49 Tryz.hL rfl rfl rfl ?_
  (simp only [pc49, rs49, oU, oC]; refine ev ?_; try with_reducible exact trivial)
  refine callF_of (Tryz.pnumbersG x y hx hy) ?_
  (refine ev ?_; try with_reducible exact trivial)
/-- has a chain a place? -/
def hasB (c : List Pt) (p : Pt) : Bool := (List.range (c.length - 1)).any fun i => decide (btw (gt c i) (gt c (i + 1)) p)
/-- where a place is -/
def locB (c : List Pt) (p : Pt) : Bool := (List.range c.length).any fun i => decide (btw (gt c i) (gt c ((i + 1) % c.length)) p)
def locP (c : List Pt) (p : Pt) : Int := if locB c p = true then 0 else sE (gt c) c.length p c.length
def locL (c : List Pt) (p : Pt) : Int := if locB c p = true then 0 else sN (gt c) c.length p c.length
/-- the test of one side, as numbers compare -/
def eastC (a b p : Pt) : Prop := if 0 < cmpQ a.2 b.2 then cmpQ b.2 p.2 ≤ 0 ∧ cmpQ p.2 a.2 < 0 ∧ 0 < trn b a p else cmpQ a.2 p.2 ≤ 0 ∧ cmpQ p.2 b.2 < 0 ∧ 0 < trn a b p
end Go.Proofs

/-
  POLYLINE: the law PolylineSimplifies. Own work.
-/
namespace Go.Proofs
open Go Go.Pi Go.RowKit Go.Ar Go.Ge

theorem rd_rtlen (q : Rat) : rd q ≤ (rt q).length := by
  unfold rd
  have h1 := tz_len q.num
  refine Nat.max_le.2 ?_
  by_cases hd : q.den = 1
  · rw [rt_int hd, hd]
    have := dd_len_pos q.num.natAbs
    rw [show (dd 1).length = 1 by rw [dd_one]; rfl]
    unfold dl; omega
  · rw [rt_frac hd, List.length_append, List.length_cons]
    unfold dl; omega
/-- at and least, as the law holds them -/
def atL : Option (Nat × Rat) → D
  | none => .int .i64 (-1)
  | some q => .int .i64 (q.1 : Int)
def leL : Option (Nat × Rat) → D
  | none => .str []
  | some q => .str (rt q.2)
end Go.Proofs

/-
  POLYLINE: the law's locate; the law PolylineLocates. Own work.
-/
namespace Go.Proofs
open Go Go.Pi Go.RowKit Go.Ar Go.Ge

def northC (a b p : Pt) : Prop := if 0 < cmpQ a.1 b.1 then cmpQ b.1 p.1 ≤ 0 ∧ cmpQ p.1 a.1 < 0 ∧ (ar b a p).num.sign < 0 else cmpQ a.1 p.1 ≤ 0 ∧ cmpQ p.1 b.1 < 0 ∧ (ar a b p).num.sign < 0
def hasK (c : List Pt) (p : Pt) (k : Nat) : Bool := (List.range k).any fun i => decide (btw (gt c i) (gt c (i + 1)) p)
end Go.Proofs

/-
  POLYLINE: Check, Ring and the law's check for any texts as numbers. Own work.
-/
namespace Go.Proofs
open Go Go.Pi Go.RowKit Go.Ar Go.Ge

abbrev SP := List UInt8 × List UInt8
def spD (p : SP) : List D := [.str p.1, .str p.2]
theorem spD_len (p : SP) : (spD p).length = 2 := rfl
abbrev sps (c : List SP) : List D := rows spD c
abbrev chS (c : List SP) : D := .sl c.length (sps c)
theorem sps_len (c : List SP) : (sps c).length = c.length * 2 := rows_length spD_len c
theorem ldC_sps {l : List SP} {k t : Nat} {N : EP} {E : Env} : ldC true 2 (List.take 2 (List.drop (k * 2) (sps l))) t N E = (∃ x, l[k]? = some x ∧ N (st1 E t (.agg (spD x)))) := by
  unfold ldC
  cases h : l[k]? with
  | none =>
    have hk : l.length ≤ k := by simpa using h
    have e : List.take 2 (List.drop (k * 2) (sps l)) = [] := by rw [List.drop_eq_nil_of_le (by rw [rows_length spD_len]; omega)]; rfl
    rw [e]; simp [ofCells]
  | some x =>
    obtain ⟨r, e⟩ := rows_at spD_len h
    have e2 : List.take 2 (List.drop (k * 2) (sps l)) = spD x := by rw [e]; rfl
    rw [e2]
    simp [ofCells, spD]
theorem ldC_sps0 {l : List SP} {t : Nat} {N : EP} {E : Env} : ldC true 2 (List.take 2 (sps l)) t N E = (∃ x, l[0]? = some x ∧ N (st1 E t (.agg (spD x)))) := ldC_sps (l := l) (k := 0)
theorem eq_sp (p q : SP) : eqPr [2, 2] (spD p) (spD q) ↔ p = q := by
  constructor
  · intro h
    simp [eqPr, spD] at h
    exact Prod.ext h.1 h.2
  · rintro rfl; simp [eqPr, spD]
theorem eqOk_sp (p q : SP) : eqOk [2, 2] (spD p) (spD q) := by simp [eqOk, spD]
def gs (c : List SP) (k : Nat) : SP := c.getD k ([], [])
theorem gs_eq {c : List SP} {j : Nat} (hj : j < c.length) : c[j]? = some (gs c j) := by
  rw [List.getElem?_eq_getElem hj]; simp [gs, List.getD_eq_getElem?_getD, hj]
def bdS (c : List SP) (k : Nat) : Prop := ¬(okR (gs c k).1 ∧ okR (gs c k).2)
def dpS (c : List SP) (ring : Bool) (k : Nat) : Prop := if ring = true then gs c ((k + c.length - 1) % c.length) = gs c k else 0 < k ∧ gs c (k - 1) = gs c k
/-- the first error of numbers, from a place on -/
noncomputable def scan (bad dup : Nat → Prop) : Nat → Nat → Int
  | 0, _ => 0
  | f + 1, k => @ite _ (bad k) (Classical.propDecidable _) 2 (@ite _ (dup k) (Classical.propDecidable _) 17 (scan bad dup f (k + 1)))
theorem scan_bad {bad dup : Nat → Prop} {f k : Nat} (h : bad k) : scan bad dup (f + 1) k = 2 := by unfold scan; rw [if_pos h]
theorem scan_dup {bad dup : Nat → Prop} {f k : Nat} (h : ¬bad k) (h2 : dup k) : scan bad dup (f + 1) k = 17 := by unfold scan; rw [if_neg h, if_pos h2]
theorem scan_next {bad dup : Nat → Prop} {f k : Nat} (h : ¬bad k) (h2 : ¬dup k) : scan bad dup (f + 1) k = scan bad dup f (k + 1) := by conv => lhs; unfold scan; rw [if_neg h, if_neg h2]
/-- the number of a right text -/
noncomputable def val (s : List UInt8) : Rat := @dite _ (∃ q, s = rt q) (Classical.propDecidable _) (fun h => h.choose) (fun _ => 0)
theorem val_rt {s : List UInt8} (h : okR s) : s = rt (val s) := by
  obtain ⟨q, h1, _⟩ := h
  have hx : ∃ q, s = rt q := ⟨q, h1⟩
  unfold val
  rw [dif_pos hx]
  exact hx.choose_spec
noncomputable def toP (c : List SP) : List Pt := c.map fun p => (val p.1, val p.2)
theorem toP_sps {c : List SP} (h : ∀ p ∈ c, okR p.1 ∧ okR p.2) : sps c = pts (toP c) := by
  induction c with
  | nil => rfl
  | cons p c ih =>
    obtain ⟨h1, h2⟩ := h p (List.mem_cons_self ..)
    show spD p ++ sps c = pD (val p.1, val p.2) ++ pts (toP c)
    rw [ih fun q hq => h q (List.mem_cons_of_mem _ hq)]
    unfold spD pD
    rw [← val_rt h1, ← val_rt h2]
theorem toP_len (c : List SP) : (toP c).length = c.length := by simp [toP]
theorem toP_ch {c : List SP} (h : ∀ p ∈ c, okR p.1 ∧ okR p.2) : chn (toP c) = chS c := by
  show D.sl _ (pts (toP c)) = D.sl _ (sps c)
  rw [toP_len, toP_sps h]
theorem toP_sz {c : List SP} (h : ∀ p ∈ c, okR p.1 ∧ okR p.2) (hl : ∀ p ∈ c, p.1.length ≤ 20 ∧ p.2.length ≤ 20) : ∀ p ∈ toP c, Sz 30 p := fun p hp => by
  obtain ⟨x, hx, rfl⟩ := List.mem_map.1 hp
  obtain ⟨h1, h2⟩ := h x hx
  obtain ⟨l1, l2⟩ := hl x hx
  have r1 := rd_rtlen (val x.1)
  have r2 := rd_rtlen (val x.2)
  rw [← val_rt h1] at r1
  rw [← val_rt h2] at r2
  exact ⟨by show rd (val x.1) ≤ 30; omega, by show rd (val x.2) ≤ 30; omega⟩
/-- the error of any list as a chain, or as a ring -/
noncomputable def chkS (c : List SP) (ring : Bool) : Int :=
  if c.length < (if ring then 3 else 2) then 5 else if 400 < c.length then 4 else
    if scan (bdS c) (dpS c ring) c.length 0 = 0 then (if crs (toP c) (if ring then c.length else c.length - 1) = true then 26 else 0) else scan (bdS c) (dpS c ring) c.length 0
theorem all_ok {c : List SP} (h : ∀ j, j < c.length → ¬bdS c j) : ∀ p ∈ c, okR p.1 ∧ okR p.2 := fun p hp => by
  obtain ⟨j, hj, e⟩ := List.getElem_of_mem hp
  have := h j hj
  unfold bdS at this
  have e2 : gs c j = p := by
    have := gs_eq hj
    rw [List.getElem?_eq_getElem hj, e] at this
    exact (Option.some.inj this).symm
  rw [e2] at this
  exact Classical.not_not.1 this
set_option maxRecDepth 100000 in
set_option maxHeartbeats 8000000 in
theorem Tryz.pcheckS (c : List SP) (hlen : c.length ≤ 1000) (hl : ∀ p ∈ c, p.1.length ≤ 20 ∧ p.2.length ≤ 20) : Con Tryz.prog Tryz.L 42 [chS c] (.int .i64 (chkS c false)) := by
  refine rule42 Tryz.hL rfl rfl rfl ?_
  (simp only [pc42, rs42, oU, oC]; refine ev ?_; try with_reducible exact trivial)
  unfold chkS
  simp only [Bool.false_eq_true, if_false]
  refine ⟨fun h => by rw [if_pos (by omega)], fun h => ⟨fun h2 => by rw [if_neg (by omega), if_pos (by omega)], fun h2 => ?_⟩⟩
  rw [if_neg (by omega), if_neg (by omega)]
  refine loopF_of (fun E => ∃ i : Nat, i ≤ c.length ∧ scan (bdS c) (dpS c false) c.length 0 = scan (bdS c) (dpS c false) (c.length - i) i ∧ (∀ j, j < i → ¬bdS c j) ∧ E = [(0, chS c), (13, chS c), (14, .int .i64 c.length), (15, .int .i64 i)])
    (fun E => match lk E 15 with | .int _ i => c.length - i.toNat | _ => 0) ⟨0, by omega, rfl, fun _ h => absurd h (by omega), rfl⟩ ?_
  rintro _ ⟨i, hi, hsc, hno, rfl⟩
  simp only [evX, evY, evZ, forall_const, implies_true, initE, stepF, D.clean, mvF, moF, tkF, shF, ariF, ciF, catF, scF, ebF, eqF, eqOk, eqPr, enF, notF, ngF, cvF, csF, csbF, lenF, lenSF, ixF, iaF, PX.slot, iaAF, faF, ldF, D.mem, stF, bxF, mkSF, boundF, fldF, ixAF, mmF2, D.plain, D.isPure, optAll, D.dull, callVF, splice, D.cells, D.one, sets, resT, D.flat, D.flat0, D.simple, Nat.reduceBNe, Nat.reduceLT, reduceIte, Nat.reduceEqDiff, Nat.reduceAdd, Nat.reduceMul, Nat.reduceSub, Nat.reduceLeDiff, Int.reduceToNat, Int.reduceLT, Int.reduceLE, Int.reduceEq, Int.reduceNeg, Int.reduceSub, Int.reduceAdd, Int.reduceMul, stG_own, ldC_sps]
  refine ⟨fun h1 => ?_, fun h1 => ?_⟩
  · refine ⟨⟨by omega, by omega, by rw [sps_len]; omega⟩, _, gs_eq (show i < c.length by omega), ?_⟩
    have hlx := hl _ (List.mem_of_getElem? (gs_eq (show i < c.length by omega)))
    have hcp := Tryz.ppointG (gs c i).1 (gs c i).2 (by omega) (by omega)
    obtain ⟨m, hm⟩ : ∃ m, c.length - i = m + 1 := ⟨c.length - i - 1, by omega⟩
    rw [hm] at hsc
    have hb : bdS c i ↔ ¬(okR (gs c i).1 ∧ okR (gs c i).2) := Iff.rfl
    have hd : dpS c false i ↔ 0 < i ∧ gs c (i - 1) = gs c i := by unfold dpS; simp
    generalize hx : gs c i = x at hcp hb hd hlx ⊢
    simp only [spD, evX, evY, evZ, forall_const, implies_true, initE, stepF, D.clean, mvF, moF, tkF, shF, ariF, ciF, catF, scF, ebF, eqF, eqOk, eqPr, enF, notF, ngF, cvF, csF, csbF, lenF, lenSF, ixF, iaF, PX.slot, iaAF, faF, ldF, D.mem, stF, bxF, mkSF, boundF, fldF, ixAF, mmF2, D.plain, D.isPure, optAll, D.dull, callVF, splice, D.cells, D.one, sets, resT, D.flat, D.flat0, D.simple, Nat.reduceBNe, Nat.reduceLT, reduceIte, Nat.reduceEqDiff, Nat.reduceAdd, Nat.reduceMul, Nat.reduceSub, Nat.reduceLeDiff, Int.reduceToNat, Int.reduceLT, Int.reduceLE, Int.reduceEq, Int.reduceNeg, Int.reduceSub, Int.reduceAdd, Int.reduceMul, stG_own]
    refine callF_of hcp ?_
    simp only [evX, evY, evZ, forall_const, implies_true, initE, stepF, D.clean, mvF, moF, tkF, shF, ariF, ciF, catF, scF, ebF, eqF, eqOk, eqPr, enF, notF, ngF, cvF, csF, csbF, lenF, lenSF, ixF, iaF, PX.slot, iaAF, faF, ldF, D.mem, stF, bxF, mkSF, boundF, fldF, ixAF, mmF2, D.plain, D.isPure, optAll, D.dull, callVF, splice, D.cells, D.one, sets, resT, D.flat, D.flat0, D.simple, Nat.reduceBNe, Nat.reduceLT, reduceIte, Nat.reduceEqDiff, Nat.reduceAdd, Nat.reduceMul, Nat.reduceSub, Nat.reduceLeDiff, Int.reduceToNat, Int.reduceLT, Int.reduceLE, Int.reduceEq, Int.reduceNeg, Int.reduceSub, Int.reduceAdd, Int.reduceMul, stG_own, ldC_sps]
    have hF2 : bdS c i → (2 : Int) = if scan (bdS c) (dpS c false) c.length 0 = 0 then (if crs (toP c) (c.length - 1) = true then 26 else 0) else scan (bdS c) (dpS c false) c.length 0 := fun h => by rw [hsc, scan_bad h, if_neg (by decide)]
    have hF17 : ¬bdS c i → dpS c false i → (17 : Int) = if scan (bdS c) (dpS c false) c.length 0 = 0 then (if crs (toP c) (c.length - 1) = true then 26 else 0) else scan (bdS c) (dpS c false) c.length 0 := fun h h' => by rw [hsc, scan_dup h h', if_neg (by decide)]
    have hnx : ¬bdS c i → ¬dpS c false i → ∃ i_1 : Nat, i_1 ≤ c.length ∧ scan (bdS c) (dpS c false) c.length 0 = scan (bdS c) (dpS c false) (c.length - i_1) i_1 ∧ (∀ j, j < i_1 → ¬bdS c j) ∧ ((15 : Nat), D.int IntKind.i64 ((i : Int) + 1)) = (15, D.int IntKind.i64 (i_1 : Int)) := fun h h' => ⟨i + 1, by omega, by rw [hsc, scan_next h h', show c.length - (i + 1) = m by omega], fun j hj => by
      by_cases e : j = i
      · rw [e]; exact h
      · exact hno j (by omega), by simp⟩
    have e1 : ((i : Int) - 1).toNat = i - 1 := by omega
    rw [e1]
    refine ⟨fun h3 => hF2 (hb.2 fun hh => h3 (chk_0.2 hh)), fun h3 => ?_⟩
    have hnb : ¬bdS c i := fun hh => hb.1 hh (chk_0.1 (Classical.not_not.1 h3))
    refine ⟨fun h4 => ⟨⟨by omega, by omega⟩, ⟨by omega, by omega, by rw [sps_len]; omega⟩, _, gs_eq (show i - 1 < c.length by omega), eqOk_sp _ x, fun h5 => hF17 hnb (hd.2 ⟨by omega, (eq_sp _ x).1 h5⟩), fun h5 => ⟨⟨by omega, by omega⟩, hnx hnb (fun hh => h5 ((eq_sp _ x).2 (hd.1 hh).2)), by omega⟩⟩,
      fun h4 => ⟨⟨by omega, by omega⟩, hnx hnb (fun hh => h4 (by have := (hd.1 hh).1; omega)), by omega⟩⟩
  · have e : i = c.length := by omega
    subst e
    rw [hsc, Nat.sub_self, show scan (bdS c) (dpS c false) 0 c.length = 0 from rfl, if_pos rfl]
    have hall := all_ok hno
    have hz := toP_sz hall hl
    have e1 : (c.length : Int) - 1 = ((c.length - 1 : Nat) : Int) := by omega
    rw [e1]
    have hs := Tryz.psimple (toP c) (c.length - 1) (by rw [toP_len]; omega) (by rw [toP_len]; omega) hz
    rw [toP_ch hall] at hs
    refine ⟨⟨by omega, by omega⟩, ?_⟩
    refine callF_of hs ?_
    (refine ev ?_; try with_reducible exact trivial)
    try trace_state
set_option maxRecDepth 100000 in
set_option maxHeartbeats 8000000 in
theorem Tryz.pringS (c : List SP) (hlen : c.length ≤ 1000) (hl : ∀ p ∈ c, p.1.length ≤ 20 ∧ p.2.length ≤ 20) : Con Tryz.prog Tryz.L 38 [chS c] (.int .i64 (chkS c true)) := by
  refine rule38 Tryz.hL rfl rfl rfl ?_
  (simp only [pc38, rs38, oU, oC]; refine ev ?_; try with_reducible exact trivial)
  unfold chkS
  simp only [if_true]
  refine ⟨fun h => by rw [if_pos (by omega)], fun h => ⟨fun h2 => by rw [if_neg (by omega), if_pos (by omega)], fun h2 => ?_⟩⟩
  rw [if_neg (by omega), if_neg (by omega)]
  refine loopF_of (fun E => ∃ i : Nat, i ≤ c.length ∧ scan (bdS c) (dpS c true) c.length 0 = scan (bdS c) (dpS c true) (c.length - i) i ∧ (∀ j, j < i → ¬bdS c j) ∧ E = [(0, chS c), (13, chS c), (14, .int .i64 c.length), (15, .int .i64 i)])
    (fun E => match lk E 15 with | .int _ i => c.length - i.toNat | _ => 0) ⟨0, by omega, rfl, fun _ h => absurd h (by omega), rfl⟩ ?_
  rintro _ ⟨i, hi, hsc, hno, rfl⟩
  simp only [evX, evY, evZ, forall_const, implies_true, initE, stepF, D.clean, mvF, moF, tkF, shF, ariF, ciF, catF, scF, ebF, eqF, eqOk, eqPr, enF, notF, ngF, cvF, csF, csbF, lenF, lenSF, ixF, iaF, PX.slot, iaAF, faF, ldF, D.mem, stF, bxF, mkSF, boundF, fldF, ixAF, mmF2, D.plain, D.isPure, optAll, D.dull, callVF, splice, D.cells, D.one, sets, resT, D.flat, D.flat0, D.simple, Nat.reduceBNe, Nat.reduceLT, reduceIte, Nat.reduceEqDiff, Nat.reduceAdd, Nat.reduceMul, Nat.reduceSub, Nat.reduceLeDiff, Int.reduceToNat, Int.reduceLT, Int.reduceLE, Int.reduceEq, Int.reduceNeg, Int.reduceSub, Int.reduceAdd, Int.reduceMul, stG_own, ldC_sps]
  refine ⟨fun h1 => ?_, fun h1 => ?_⟩
  · refine ⟨⟨by omega, by omega, by rw [sps_len]; omega⟩, _, gs_eq (show i < c.length by omega), ?_⟩
    have hlx := hl _ (List.mem_of_getElem? (gs_eq (show i < c.length by omega)))
    have hcp := Tryz.ppointG (gs c i).1 (gs c i).2 (by omega) (by omega)
    obtain ⟨m, hm⟩ : ∃ m, c.length - i = m + 1 := ⟨c.length - i - 1, by omega⟩
    rw [hm] at hsc
    have hb : bdS c i ↔ ¬(okR (gs c i).1 ∧ okR (gs c i).2) := Iff.rfl
    have hd : dpS c true i ↔ gs c ((i + c.length - 1) % c.length) = gs c i := by unfold dpS; simp
    have hkk : (i + c.length - 1) % c.length < c.length := Nat.mod_lt _ (by omega)
    have hgk := gs_eq hkk
    have e1 : ((i : Int) + (c.length : Int) - 1).tmod (c.length : Int) = (((i + c.length - 1) % c.length : Nat) : Int) := by
      rw [show (i : Int) + (c.length : Int) - 1 = ((i + c.length - 1 : Nat) : Int) by omega]; rfl
    generalize hx : gs c i = x at hcp hb hd hlx ⊢
    simp only [spD, evX, evY, evZ, forall_const, implies_true, initE, stepF, D.clean, mvF, moF, tkF, shF, ariF, ciF, catF, scF, ebF, eqF, eqOk, eqPr, enF, notF, ngF, cvF, csF, csbF, lenF, lenSF, ixF, iaF, PX.slot, iaAF, faF, ldF, D.mem, stF, bxF, mkSF, boundF, fldF, ixAF, mmF2, D.plain, D.isPure, optAll, D.dull, callVF, splice, D.cells, D.one, sets, resT, D.flat, D.flat0, D.simple, Nat.reduceBNe, Nat.reduceLT, reduceIte, Nat.reduceEqDiff, Nat.reduceAdd, Nat.reduceMul, Nat.reduceSub, Nat.reduceLeDiff, Int.reduceToNat, Int.reduceLT, Int.reduceLE, Int.reduceEq, Int.reduceNeg, Int.reduceSub, Int.reduceAdd, Int.reduceMul, stG_own]
    refine callF_of hcp ?_
    simp only [evX, evY, evZ, forall_const, implies_true, initE, stepF, D.clean, mvF, moF, tkF, shF, ariF, ciF, catF, scF, ebF, eqF, eqOk, eqPr, enF, notF, ngF, cvF, csF, csbF, lenF, lenSF, ixF, iaF, PX.slot, iaAF, faF, ldF, D.mem, stF, bxF, mkSF, boundF, fldF, ixAF, mmF2, D.plain, D.isPure, optAll, D.dull, callVF, splice, D.cells, D.one, sets, resT, D.flat, D.flat0, D.simple, Nat.reduceBNe, Nat.reduceLT, reduceIte, Nat.reduceEqDiff, Nat.reduceAdd, Nat.reduceMul, Nat.reduceSub, Nat.reduceLeDiff, Int.reduceToNat, Int.reduceLT, Int.reduceLE, Int.reduceEq, Int.reduceNeg, Int.reduceSub, Int.reduceAdd, Int.reduceMul, stG_own, ldC_sps]
    rw [e1]
    simp only [Int.toNat_natCast]
    have hF2 : bdS c i → (2 : Int) = if scan (bdS c) (dpS c true) c.length 0 = 0 then (if crs (toP c) (c.length) = true then 26 else 0) else scan (bdS c) (dpS c true) c.length 0 := fun h => by rw [hsc, scan_bad h, if_neg (by decide)]
    have hF17 : ¬bdS c i → dpS c true i → (17 : Int) = if scan (bdS c) (dpS c true) c.length 0 = 0 then (if crs (toP c) (c.length) = true then 26 else 0) else scan (bdS c) (dpS c true) c.length 0 := fun h h' => by rw [hsc, scan_dup h h', if_neg (by decide)]
    have hnx : ¬bdS c i → ¬dpS c true i → ∃ i_1 : Nat, i_1 ≤ c.length ∧ scan (bdS c) (dpS c true) c.length 0 = scan (bdS c) (dpS c true) (c.length - i_1) i_1 ∧ (∀ j, j < i_1 → ¬bdS c j) ∧ ((15 : Nat), D.int IntKind.i64 ((i : Int) + 1)) = (15, D.int IntKind.i64 (i_1 : Int)) := fun h h' => ⟨i + 1, by omega, by rw [hsc, scan_next h h', show c.length - (i + 1) = m by omega], fun j hj => by
      by_cases e : j = i
      · rw [e]; exact h
      · exact hno j (by omega), by simp⟩
    generalize (i + c.length - 1) % c.length = k at hd hkk hgk ⊢
    refine ⟨fun h3 => hF2 (hb.2 fun hh => h3 (chk_0.2 hh)), fun h3 => ?_⟩
    have hnb : ¬bdS c i := fun hh => hb.1 hh (chk_0.1 (Classical.not_not.1 h3))
    exact ⟨⟨by omega, by omega⟩, ⟨by omega, by omega⟩, by omega, ⟨by omega, by omega, by rw [sps_len]; omega⟩, _, hgk, eqOk_sp _ x, fun h5 => hF17 hnb (hd.2 ((eq_sp _ x).1 h5)), fun h5 => ⟨⟨by omega, by omega⟩, hnx hnb (fun hh => h5 ((eq_sp _ x).2 (hd.1 hh))), by omega⟩⟩
  · have e : i = c.length := by omega
    subst e
    rw [hsc, Nat.sub_self, show scan (bdS c) (dpS c true) 0 c.length = 0 from rfl, if_pos rfl]
    have hall := all_ok hno
    have hz := toP_sz hall hl
    have hs := Tryz.psimple (toP c) c.length (by rw [toP_len]; omega) (by rw [toP_len]; omega) hz
    rw [toP_ch hall] at hs
    refine callF_of hs ?_
    (refine ev ?_; try with_reducible exact trivial)
    try trace_state
end Go.Proofs

/-
  POLYLINE: the law's check for any texts; few. Own work.
-/
namespace Go.Proofs
open Go Go.Pi Go.RowKit Go.Ar Go.Ge

theorem scan_all {bad dup : Nat → Prop} : ∀ {f k : Nat}, (∀ j, k ≤ j → j < k + f → ¬bad j) → (scan bad dup f k = 0 ∧ ∀ j, k ≤ j → j < k + f → ¬dup j) ∨ (scan bad dup f k = 17 ∧ ∃ j, k ≤ j ∧ j < k + f ∧ dup j)
  | 0, k, _ => .inl ⟨rfl, fun j h1 h2 => by omega⟩
  | f + 1, k, h => by
    by_cases hd : dup k
    · exact .inr ⟨scan_dup (h k (Nat.le_refl _) (by omega)) hd, k, Nat.le_refl _, by omega, hd⟩
    · rw [scan_next (h k (Nat.le_refl _) (by omega)) hd]
      rcases scan_all (bad := bad) (dup := dup) (f := f) (k := k + 1) (fun j h1 h2 => h j (by omega) (by omega)) with ⟨h1, h2⟩ | ⟨h1, j, h2, h3, h4⟩
      · refine .inl ⟨h1, fun j h3 h4 => ?_⟩
        by_cases e : j = k
        · rw [e]; exact hd
        · exact h2 j (by omega) (by omega)
      · exact .inr ⟨h1, j, by omega, by omega, h4⟩
theorem gt_toP {c : List SP} {j : Nat} (hj : j < c.length) : gt (toP c) j = (val (gs c j).1, val (gs c j).2) := by
  refine gt_get ?_
  unfold toP
  rw [List.getElem?_map, gs_eq hj]; rfl
theorem gs_gt {c : List SP} (h : ∀ p ∈ c, okR p.1 ∧ okR p.2) {i j : Nat} (hi : i < c.length) (hj : j < c.length) : gs c i = gs c j ↔ gt (toP c) i = gt (toP c) j := by
  rw [gt_toP hi, gt_toP hj]
  obtain ⟨a1, a2⟩ := h _ (List.mem_of_getElem? (gs_eq hi))
  obtain ⟨b1, b2⟩ := h _ (List.mem_of_getElem? (gs_eq hj))
  constructor
  · intro e; rw [e]
  · intro e
    have e1 : val (gs c i).1 = val (gs c j).1 := congrArg Prod.fst e
    have e2 : val (gs c i).2 = val (gs c j).2 := congrArg Prod.snd e
    exact Prod.ext (by rw [val_rt a1, val_rt b1, e1]) (by rw [val_rt a2, val_rt b2, e2])
theorem chkS_N {c : List SP} (ring : Bool) (h : ∀ j, j < c.length → ¬bdS c j) : chkS c ring = chkN (toP c) ring := by
  have hall := all_ok h
  have hl := toP_len c
  unfold chkS chkN segs
  rw [hl]
  by_cases h1 : c.length < (if ring = true then 3 else 2)
  · rw [if_pos h1, if_pos h1]
  · rw [if_neg h1, if_neg h1]
    by_cases h2 : 400 < c.length
    · rw [if_pos h2, if_pos h2]
    · rw [if_neg h2, if_neg h2]
      have key : (∃ j, 0 ≤ j ∧ j < 0 + c.length ∧ dpS c ring j) ↔ dbl (toP c) (if ring = true then c.length else c.length - 1) = true := by
        rw [dbl_iff, hl]
        unfold dpS
        cases ring with
        | true =>
          simp only [if_true]
          constructor
          · rintro ⟨j, _, hj, e⟩
            obtain ⟨q1, q2⟩ := ringprev (show j < c.length by omega)
            exact ⟨(j + c.length - 1) % c.length, q1, by rw [q2]; exact (gs_gt hall q1 (by omega)).1 e⟩
          · rintro ⟨j, hj, e⟩
            obtain ⟨q1, q2⟩ := ringnext hj
            exact ⟨(j + 1) % c.length, by omega, by omega, by rw [q2]; exact (gs_gt hall hj q1).2 e⟩
        | false =>
          simp only [Bool.false_eq_true, if_false]
          constructor
          · rintro ⟨j, _, hj, h3, e⟩
            exact ⟨j - 1, by omega, by rw [show j - 1 + 1 = j by omega, Nat.mod_eq_of_lt (by omega)]; exact (gs_gt hall (by omega) (by omega)).1 e⟩
          · rintro ⟨j, hj, e⟩
            rw [Nat.mod_eq_of_lt (by omega)] at e
            exact ⟨j + 1, by omega, by omega, by omega, (gs_gt hall (by omega) (by omega)).2 e⟩
      rcases scan_all (bad := bdS c) (dup := dpS c ring) (f := c.length) (k := 0) (fun j _ hj => h j (by omega)) with ⟨h3, h4⟩ | ⟨h3, h4⟩
      · have hnd : ¬dbl (toP c) (if ring = true then c.length else c.length - 1) = true := fun hd => by obtain ⟨j, h5, h6, h7⟩ := key.2 hd; exact h4 j h5 h6 h7
        rw [h3, if_pos rfl, if_neg hnd]
      · rw [h3, if_neg (by decide), if_pos (key.1 h4)]
set_option maxRecDepth 100000 in
set_option maxHeartbeats 8000000 in
theorem Tryz.lcheckS (c : List SP) (ring : Bool) (hlen : c.length ≤ 1000) (hl : ∀ p ∈ c, p.1.length ≤ 20 ∧ p.2.length ≤ 20) : Con Tryz.prog Tryz.L 13 [chS c, .bool ring] (.int .i64 (chkS c ring)) := by
  by_cases hall : c.length ≤ 400 ∧ ∀ j, j < c.length → ¬bdS c j
  · have h := Tryz.lcheck (toP c) ring (by rw [toP_len]; exact hall.1) (toP_sz (all_ok hall.2) hl)
    rw [toP_ch (all_ok hall.2), ← chkS_N ring hall.2] at h
    exact h
  · refine rule13 Tryz.hL rfl rfl rfl ?_
    cases ring with
    | false =>
      (simp only [pc13, rs13, oU, oC]; refine ev ?_; try with_reducible exact trivial)
      unfold chkS
      simp only [Bool.false_eq_true, if_false]
      refine ⟨fun h => by rw [if_pos (by omega)], fun h => ⟨fun h2 => by rw [if_neg (by omega), if_pos (by omega)], fun h2 => ?_⟩⟩
      rw [if_neg (by omega), if_neg (by omega)]
      refine loopF_of (fun E => ∃ i : Nat, i ≤ c.length ∧ scan (bdS c) (dpS c false) c.length 0 = scan (bdS c) (dpS c false) (c.length - i) i ∧ (∀ j, j < i → ¬bdS c j) ∧ E = [(0, chS c), (1, .bool false), (6, .int .i64 i)])
        (fun E => match lk E 6 with | .int _ i => c.length - i.toNat | _ => 0) ⟨0, by omega, rfl, fun _ h => absurd h (by omega), rfl⟩ ?_
      rintro _ ⟨i, hi, hsc, hno, rfl⟩
      simp only [evX, evY, evZ, forall_const, implies_true, initE, stepF, D.clean, mvF, moF, tkF, shF, ariF, ciF, catF, scF, ebF, eqF, eqOk, eqPr, enF, notF, ngF, cvF, csF, csbF, lenF, lenSF, ixF, iaF, PX.slot, iaAF, faF, ldF, D.mem, stF, bxF, mkSF, boundF, fldF, ixAF, mmF2, D.plain, D.isPure, optAll, D.dull, callVF, splice, D.cells, D.one, sets, resT, D.flat, D.flat0, D.simple, Nat.reduceBNe, Nat.reduceLT, reduceIte, Nat.reduceEqDiff, Nat.reduceAdd, Nat.reduceMul, Nat.reduceSub, Nat.reduceLeDiff, Int.reduceToNat, Int.reduceLT, Int.reduceLE, Int.reduceEq, Int.reduceNeg, Int.reduceSub, Int.reduceAdd, Int.reduceMul, stG_own, ldC_sps, ldC_sps0]
      refine ⟨fun h1 => ?_, fun h1 => absurd ⟨by omega, fun j hj => hno j (by omega)⟩ hall⟩
      refine ⟨⟨by omega, by omega, by rw [sps_len]; omega⟩, _, gs_eq (show i < c.length by omega), ?_⟩
      have hlx := hl _ (List.mem_of_getElem? (gs_eq (show i < c.length by omega)))
      have hcp := Tryz.lright (gs c i).1 (gs c i).2 (by omega) (by omega)
      obtain ⟨m, hm⟩ : ∃ m, c.length - i = m + 1 := ⟨c.length - i - 1, by omega⟩
      rw [hm] at hsc
      have hb : bdS c i ↔ ¬(okR (gs c i).1 ∧ okR (gs c i).2) := Iff.rfl
      have hd : dpS c false i ↔ 0 < i ∧ gs c (i - 1) = gs c i := by unfold dpS; simp
      refine callF_of hcp ?_
      simp only [evX, evY, evZ, forall_const, implies_true, initE, stepF, D.clean, mvF, moF, tkF, shF, ariF, ciF, catF, scF, ebF, eqF, eqOk, eqPr, enF, notF, ngF, cvF, csF, csbF, lenF, lenSF, ixF, iaF, PX.slot, iaAF, faF, ldF, D.mem, stF, bxF, mkSF, boundF, fldF, ixAF, mmF2, D.plain, D.isPure, optAll, D.dull, callVF, splice, D.cells, D.one, sets, resT, D.flat, D.flat0, D.simple, Nat.reduceBNe, Nat.reduceLT, reduceIte, Nat.reduceEqDiff, Nat.reduceAdd, Nat.reduceMul, Nat.reduceSub, Nat.reduceLeDiff, Int.reduceToNat, Int.reduceLT, Int.reduceLE, Int.reduceEq, Int.reduceNeg, Int.reduceSub, Int.reduceAdd, Int.reduceMul, stG_own, ldC_sps, ldC_sps0]
      have hF2 : bdS c i → (2 : Int) = if scan (bdS c) (dpS c false) c.length 0 = 0 then (if crs (toP c) (c.length - 1) = true then 26 else 0) else scan (bdS c) (dpS c false) c.length 0 := fun h => by rw [hsc, scan_bad h, if_neg (by decide)]
      have hF17 : ¬bdS c i → dpS c false i → (17 : Int) = if scan (bdS c) (dpS c false) c.length 0 = 0 then (if crs (toP c) (c.length - 1) = true then 26 else 0) else scan (bdS c) (dpS c false) c.length 0 := fun h h' => by rw [hsc, scan_dup h h', if_neg (by decide)]
      have hnx : ¬bdS c i → ¬dpS c false i → ∃ i_1 : Nat, i_1 ≤ c.length ∧ scan (bdS c) (dpS c false) c.length 0 = scan (bdS c) (dpS c false) (c.length - i_1) i_1 ∧ (∀ j, j < i_1 → ¬bdS c j) ∧ ((6 : Nat), D.int IntKind.i64 ((i : Int) + 1)) = (6, D.int IntKind.i64 (i_1 : Int)) := fun h h' => ⟨i + 1, by omega, by rw [hsc, scan_next h h', show c.length - (i + 1) = m by omega], fun j hj => by
        by_cases e : j = i
        · rw [e]; exact h
        · exact hno j (by omega), by simp⟩
      have e1 : ((i : Int) - 1).toNat = i - 1 := by omega
      rw [e1]
      refine ⟨fun h3 => hF2 (hb.2 h3), fun h3 => ?_⟩
      have hnb : ¬bdS c i := fun hh => h3 (hb.1 hh)
      refine ⟨fun h4 => ⟨⟨by omega, by omega, by rw [sps_len]; omega⟩, _, gs_eq (show i < c.length by omega), ⟨by omega, by omega⟩, ⟨by omega, by omega, by rw [sps_len]; omega⟩, _, gs_eq (show i - 1 < c.length by omega), eqOk_sp _ _, fun h5 => ⟨fun h6 => absurd h6 (by omega), fun _ => ⟨⟨by omega, by omega⟩, hnx hnb (fun hh => h5 ((eq_sp _ _).2 (hd.1 hh).2.symm)), by omega⟩⟩, fun h5 => hF17 hnb (hd.2 ⟨by omega, ((eq_sp _ _).1 h5).symm⟩)⟩,
        fun h4 => ⟨fun _ => ⟨⟨by omega, by omega⟩, hnx hnb (fun hh => h4 (by have := (hd.1 hh).1; omega)), by omega⟩, fun h6 => absurd (by omega) h6⟩⟩
    | true =>
      (simp only [pc13, rs13, oU, oC]; refine ev ?_; try with_reducible exact trivial)
      unfold chkS
      simp only [if_true]
      refine ⟨fun h => by rw [if_pos (by omega)], fun h => ⟨fun h2 => by rw [if_neg (by omega), if_pos (by omega)], fun h2 => ?_⟩⟩
      rw [if_neg (by omega), if_neg (by omega)]
      refine loopF_of (fun E => ∃ i : Nat, i ≤ c.length ∧ scan (bdS c) (dpS c true) c.length 0 = scan (bdS c) (dpS c true) (c.length - i) i ∧ (∀ j, j < i → ¬bdS c j) ∧ E = [(0, chS c), (1, .bool true), (6, .int .i64 i)])
        (fun E => match lk E 6 with | .int _ i => c.length - i.toNat | _ => 0) ⟨0, by omega, rfl, fun _ h => absurd h (by omega), rfl⟩ ?_
      rintro _ ⟨i, hi, hsc, hno, rfl⟩
      simp only [evX, evY, evZ, forall_const, implies_true, initE, stepF, D.clean, mvF, moF, tkF, shF, ariF, ciF, catF, scF, ebF, eqF, eqOk, eqPr, enF, notF, ngF, cvF, csF, csbF, lenF, lenSF, ixF, iaF, PX.slot, iaAF, faF, ldF, D.mem, stF, bxF, mkSF, boundF, fldF, ixAF, mmF2, D.plain, D.isPure, optAll, D.dull, callVF, splice, D.cells, D.one, sets, resT, D.flat, D.flat0, D.simple, Nat.reduceBNe, Nat.reduceLT, reduceIte, Nat.reduceEqDiff, Nat.reduceAdd, Nat.reduceMul, Nat.reduceSub, Nat.reduceLeDiff, Int.reduceToNat, Int.reduceLT, Int.reduceLE, Int.reduceEq, Int.reduceNeg, Int.reduceSub, Int.reduceAdd, Int.reduceMul, stG_own, ldC_sps, ldC_sps0]
      refine ⟨fun h1 => ?_, fun h1 => absurd ⟨by omega, fun j hj => hno j (by omega)⟩ hall⟩
      refine ⟨⟨by omega, by omega, by rw [sps_len]; omega⟩, _, gs_eq (show i < c.length by omega), ?_⟩
      have hlx := hl _ (List.mem_of_getElem? (gs_eq (show i < c.length by omega)))
      have hcp := Tryz.lright (gs c i).1 (gs c i).2 (by omega) (by omega)
      obtain ⟨m, hm⟩ : ∃ m, c.length - i = m + 1 := ⟨c.length - i - 1, by omega⟩
      rw [hm] at hsc
      have hb : bdS c i ↔ ¬(okR (gs c i).1 ∧ okR (gs c i).2) := Iff.rfl
      have hd : dpS c true i ↔ gs c ((i + c.length - 1) % c.length) = gs c i := by unfold dpS; simp
      have hpi : 0 < i → (i + c.length - 1) % c.length = i - 1 := fun h0 => by
        rw [show i + c.length - 1 = (i - 1) + c.length by omega, Nat.add_mod_right, Nat.mod_eq_of_lt (by omega)]
      have hp0 : (0 + c.length - 1) % c.length = c.length - 1 := by
        rw [show 0 + c.length - 1 = c.length - 1 by omega, Nat.mod_eq_of_lt (by omega)]
      have e2 : ((c.length : Int) - 1).toNat = c.length - 1 := by omega
      refine callF_of hcp ?_
      simp only [evX, evY, evZ, forall_const, implies_true, initE, stepF, D.clean, mvF, moF, tkF, shF, ariF, ciF, catF, scF, ebF, eqF, eqOk, eqPr, enF, notF, ngF, cvF, csF, csbF, lenF, lenSF, ixF, iaF, PX.slot, iaAF, faF, ldF, D.mem, stF, bxF, mkSF, boundF, fldF, ixAF, mmF2, D.plain, D.isPure, optAll, D.dull, callVF, splice, D.cells, D.one, sets, resT, D.flat, D.flat0, D.simple, Nat.reduceBNe, Nat.reduceLT, reduceIte, Nat.reduceEqDiff, Nat.reduceAdd, Nat.reduceMul, Nat.reduceSub, Nat.reduceLeDiff, Int.reduceToNat, Int.reduceLT, Int.reduceLE, Int.reduceEq, Int.reduceNeg, Int.reduceSub, Int.reduceAdd, Int.reduceMul, stG_own, ldC_sps, ldC_sps0]
      rw [e2]
      have hF2 : bdS c i → (2 : Int) = if scan (bdS c) (dpS c true) c.length 0 = 0 then (if crs (toP c) (c.length) = true then 26 else 0) else scan (bdS c) (dpS c true) c.length 0 := fun h => by rw [hsc, scan_bad h, if_neg (by decide)]
      have hF17 : ¬bdS c i → dpS c true i → (17 : Int) = if scan (bdS c) (dpS c true) c.length 0 = 0 then (if crs (toP c) (c.length) = true then 26 else 0) else scan (bdS c) (dpS c true) c.length 0 := fun h h' => by rw [hsc, scan_dup h h', if_neg (by decide)]
      have hnx : ¬bdS c i → ¬dpS c true i → ∃ i_1 : Nat, i_1 ≤ c.length ∧ scan (bdS c) (dpS c true) c.length 0 = scan (bdS c) (dpS c true) (c.length - i_1) i_1 ∧ (∀ j, j < i_1 → ¬bdS c j) ∧ ((6 : Nat), D.int IntKind.i64 ((i : Int) + 1)) = (6, D.int IntKind.i64 (i_1 : Int)) := fun h h' => ⟨i + 1, by omega, by rw [hsc, scan_next h h', show c.length - (i + 1) = m by omega], fun j hj => by
        by_cases e : j = i
        · rw [e]; exact h
        · exact hno j (by omega), by simp⟩
      have e1 : ((i : Int) - 1).toNat = i - 1 := by omega
      rw [e1]
      refine ⟨fun h3 => hF2 (hb.2 h3), fun h3 => ?_⟩
      have hnb : ¬bdS c i := fun hh => h3 (hb.1 hh)
      refine ⟨fun h4 => ⟨⟨by omega, by omega, by rw [sps_len]; omega⟩, _, gs_eq (show i < c.length by omega), ⟨by omega, by omega⟩, ⟨by omega, by omega, by rw [sps_len]; omega⟩, _, gs_eq (show i - 1 < c.length by omega), eqOk_sp _ _, fun h5 => ⟨fun h6 => absurd h6 (by omega), fun _ => ⟨⟨by omega, by omega⟩, hnx hnb (fun hh => h5 ((eq_sp _ _).2 (by have := hd.1 hh; rw [hpi (by omega)] at this; exact this.symm))), by omega⟩⟩, fun h5 => hF17 hnb (hd.2 (by rw [hpi (by omega)]; exact ((eq_sp _ _).1 h5).symm))⟩,
        fun h4 => ⟨fun h5 => ⟨⟨by omega, by rw [sps_len]; omega⟩, _, gs_eq (show 0 < c.length by omega), ⟨by omega, by omega⟩, ⟨by omega, by omega, by rw [sps_len]; omega⟩, _, gs_eq (show c.length - 1 < c.length by omega), eqOk_sp _ _, fun h6 => ?_, fun h6 => ⟨⟨by omega, by omega⟩, hnx hnb (fun hh => ?_), by omega⟩⟩, fun h6 => absurd (by omega) h6⟩⟩
      · obtain rfl : i = 0 := by omega
        exact hF17 hnb (hd.2 (by rw [hp0]; exact ((eq_sp _ _).1 h6).symm))
      · obtain rfl : i = 0 := by omega
        have := hd.1 hh
        rw [hp0] at this
        exact h6 ((eq_sp _ _).2 this.symm)
end Go.Proofs

/-
  POLYLINE: what the functions return for a list that is no chain, or no ring. Own work.
-/
namespace Go.Proofs
open Go Go.Pi Go.RowKit Go.Ar Go.Ge

/-- Join up to its first loop, Orient up to its check -/
def pcE1 : PC := .seq (.reg [
   ⟨some 2, .nil 24, none⟩,
   ⟨some 3, .cp (.k (.int .i64 0)), none⟩] [0])
 (.seq (.seq (.reg [
     ⟨some 18, .cp (.v 0), none⟩,
     ⟨some 19, .len (.v 18), none⟩,
     ⟨some 20, .cp (.k (.int .i64 0)), none⟩] [0, 18, 19, 20])
   (.blk 0 (.loop (.seq (.reg [
        ⟨some 21, .ci .lss (.v 20) (.v 19), none⟩] [0, 18, 19, 20, 21])
      (.seq (.cnd (.v 21) (.skip)
        (.exit 0))
       (.seq (.blk 1 (.seq (.reg [
            ⟨some 22, .ia 1 (.v 18) (.v 20), none⟩,
            ⟨some 23, .ld false 1 (.v 22), none⟩,
            ⟨some 5, .cp (.v 23), none⟩] [0, 5, 18, 19, 20])
          (.seq (.reg [
             ⟨some 24, .cp (.v 5), none⟩,
             ⟨some 25, .call 42 [.v 24], none⟩,
             ⟨some 6, .cp (.v 25), none⟩] [0, 6, 18, 19, 20])
           (.seq (.reg [
              ⟨some 26, .cp (.v 6), none⟩,
              ⟨some 27, .ci .neq (.v 26) (.k (.int .i64 0)), none⟩] [0, 6, 18, 19, 20, 27])
            (.cnd (.v 27) (.seq (.reg [
                ⟨some 28, .cp (.v 6), none⟩,
                ⟨some 2, .nil 24, none⟩,
                ⟨some 3, .cp (.v 28), none⟩] [2, 3])
              (.ret))
             (.skip))))))
        (.reg [
          ⟨some 29, .ari .add .i64 (.v 20) (.k (.int .i64 1)), none⟩,
          ⟨some 20, .cp (.v 29), none⟩] [0, 18, 19, 20])))))))
  .bad)
def pcE2 : PC := .seq (.reg [
   ⟨some 2, .nil 35, none⟩,
   ⟨some 3, .cp (.k (.int .i64 0)), none⟩] [0])
 (.seq (.seq (.reg [
     ⟨some 7, .cp (.v 0), none⟩,
     ⟨some 8, .call 38 [.v 7], none⟩,
     ⟨some 4, .cp (.v 8), none⟩] [0, 4])
   (.seq (.reg [
      ⟨some 9, .cp (.v 4), none⟩,
      ⟨some 10, .ci .neq (.v 9) (.k (.int .i64 0)), none⟩] [0, 4, 10])
    (.cnd (.v 10) (.seq (.reg [
        ⟨some 11, .cp (.v 4), none⟩,
        ⟨some 2, .nil 35, none⟩,
        ⟨some 3, .cp (.v 11), none⟩] [2, 3])
      (.ret))
     (.skip))))
  .bad)
def rsE : List RV := [.t 2, .t 3]
set_option maxRecDepth 100000 in
theorem Tryz.chkE1 : chkFn Tryz.prog Tryz.f43 1 pcE1 rsE = true := by kernel_rfl
set_option maxRecDepth 100000 in
theorem Tryz.chkE2 : chkFn Tryz.prog Tryz.f31 1 pcE2 rsE = true := by kernel_rfl
theorem Tryz.joinBad (c : List SP) (e : Int) (hc : Con Tryz.prog Tryz.L 42 [chS c] (.int .i64 e)) (he : e ≠ 0) : Con Tryz.prog Tryz.L 43 [.sl 1 [chS c]] (.tup [.sl 0 [], .int .i64 e]) := by
  refine con_chk Tryz.hL Tryz.func43 Tryz.chkE1 rfl rfl rfl (wC_sound ?_)
  simp only [pcE1, rsE, evX, evY, evZ, forall_const, implies_true, initE, stepF, D.clean, mvF, moF, tkF, shF, ariF, ciF, catF, scF, ebF, eqF, eqOk, eqPr, enF, notF, ngF, cvF, csF, csbF, lenF, lenSF, ixF, iaF, PX.slot, iaAF, faF, ldF, D.mem, stF, bxF, mkSF, boundF, fldF, ixAF, mmF2, D.plain, D.isPure, optAll, D.dull, callVF, splice, D.cells, D.one, sets, resT, D.flat, D.flat0, D.simple, Nat.reduceBNe, Nat.reduceLT, reduceIte, Nat.reduceEqDiff, Nat.reduceAdd, Nat.reduceMul, Nat.reduceSub, Nat.reduceLeDiff, Int.reduceToNat, Int.reduceLT, Int.reduceLE, Int.reduceEq, Int.reduceNeg, Int.reduceSub, Int.reduceAdd, Int.reduceMul, stG_own]
  refine loopF_of (fun E => E = [(0, .sl 1 [chS c]), (18, .sl 1 [chS c]), (19, .int .i64 1), (20, .int .i64 0)]) (fun _ => 0) rfl ?_
  rintro _ rfl
  (refine ev ?_; try with_reducible exact trivial)
  refine ⟨by decide, callF_of hc ?_⟩
  (refine ev ?_; try with_reducible exact trivial)
  first
  | exact ⟨fun _ => rfl, fun h => absurd he h⟩
  | exact ⟨fun _ => by simp [resD_two, rvD, lk, D.plain, D.isPure, optAll], fun h => absurd he h⟩
theorem Tryz.orientBad (c : List SP) (e : Int) (hc : Con Tryz.prog Tryz.L 38 [chS c] (.int .i64 e)) (he : e ≠ 0) : Con Tryz.prog Tryz.L 31 [chS c] (.tup [.sl 0 [], .int .i64 e]) := by
  refine con_chk Tryz.hL Tryz.func31 Tryz.chkE2 rfl rfl rfl (wC_sound ?_)
  simp only [pcE2, rsE, evX, evY, evZ, forall_const, implies_true, initE, stepF, D.clean, mvF, moF, tkF, shF, ariF, ciF, catF, scF, ebF, eqF, eqOk, eqPr, enF, notF, ngF, cvF, csF, csbF, lenF, lenSF, ixF, iaF, PX.slot, iaAF, faF, ldF, D.mem, stF, bxF, mkSF, boundF, fldF, ixAF, mmF2, D.plain, D.isPure, optAll, D.dull, callVF, splice, D.cells, D.one, sets, resT, D.flat, D.flat0, D.simple, Nat.reduceBNe, Nat.reduceLT, reduceIte, Nat.reduceEqDiff, Nat.reduceAdd, Nat.reduceMul, Nat.reduceSub, Nat.reduceLeDiff, Int.reduceToNat, Int.reduceLT, Int.reduceLE, Int.reduceEq, Int.reduceNeg, Int.reduceSub, Int.reduceAdd, Int.reduceMul, stG_own]
  refine callF_of hc ?_
  (refine ev ?_; try with_reducible exact trivial)
  first
  | exact ⟨fun _ => rfl, fun h => absurd he h⟩
  | exact ⟨fun _ => by simp [resD_two, rvD, lk, D.plain, D.isPure, optAll], fun h => absurd he h⟩
theorem Tryz.lengthBad (c : List SP) (e : Int) (hc : Con Tryz.prog Tryz.L 42 [chS c] (.int .i64 e)) (he : e ≠ 0) : Con Tryz.prog Tryz.L 34 [chS c] (.tup [.sl 0 [], .int .i64 e]) := by
  refine rule34 Tryz.hL rfl rfl rfl ?_
  (simp only [pc34, rs34, oU, oC]; refine ev ?_; try with_reducible exact trivial)
  refine callF_of hc ?_
  (refine ev ?_; try with_reducible exact trivial)
  first
  | exact ⟨fun _ => rfl, fun h => absurd he h⟩
  | exact ⟨fun _ => by simp [resD_two, rvD, lk, D.plain, D.isPure, optAll], fun h => absurd he h⟩
theorem Tryz.hasBad (c : List SP) (p : SP) (e : Int) (hc : Con Tryz.prog Tryz.L 42 [chS c] (.int .i64 e)) (he : e ≠ 0) : Con Tryz.prog Tryz.L 26 [chS c, .agg (spD p)] (.tup [.bool false, .int .i64 e]) := by
  refine rule26 Tryz.hL rfl rfl rfl ?_
  simp only [spD, pc26, rs26, oU, oC, evX, evY, evZ, forall_const, implies_true, initE, stepF, D.clean, mvF, moF, tkF, shF, ariF, ciF, catF, scF, ebF, eqF, eqOk, eqPr, enF, notF, ngF, cvF, csF, csbF, lenF, lenSF, ixF, iaF, PX.slot, iaAF, faF, ldF, D.mem, stF, bxF, mkSF, boundF, fldF, ixAF, mmF2, D.plain, D.isPure, optAll, D.dull, callVF, splice, D.cells, D.one, sets, resT, D.flat, D.flat0, D.simple, Nat.reduceBNe, Nat.reduceLT, reduceIte, Nat.reduceEqDiff, Nat.reduceAdd, Nat.reduceMul, Nat.reduceSub, Nat.reduceLeDiff, Int.reduceToNat, Int.reduceLT, Int.reduceLE, Int.reduceEq, Int.reduceNeg, Int.reduceSub, Int.reduceAdd, Int.reduceMul, stG_own]
  refine callF_of hc ?_
  (refine ev ?_; try with_reducible exact trivial)
  first
  | exact ⟨fun _ => rfl, fun h => absurd he h⟩
  | exact ⟨fun _ => by simp [resD_two, rvD, lk, D.plain, D.isPure, optAll], fun h => absurd he h⟩
theorem Tryz.crossBad (c : List SP) (e : Int) (hc : Con Tryz.prog Tryz.L 42 [chS c] (.int .i64 e)) (he : e ≠ 0) : Con Tryz.prog Tryz.L 14 [chS c, chS c] (.tup [.sl 0 [], .int .i64 e]) := by
  refine rule14 Tryz.hL rfl rfl rfl ?_
  (simp only [pc14, rs14, oU, oC]; refine ev ?_; try with_reducible exact trivial)
  refine loopF_of (fun E => E = [(0, chS c), (1, chS c), (16, .agg [chS c, chS c]), (17, .int .i64 0)]) (fun _ => 0) rfl ?_
  rintro _ rfl
  (refine ev ?_; try with_reducible exact trivial)
  refine ⟨by decide, callF_of hc ?_⟩
  (refine ev ?_; try with_reducible exact trivial)
  first
  | exact ⟨fun _ => rfl, fun h => absurd he h⟩
  | exact ⟨fun _ => by simp [resD_two, rvD, lk, D.plain, D.isPure, optAll], fun h => absurd he h⟩
theorem Tryz.simpBad (c : List SP) (s : List UInt8) (hs : s.length ≤ 1000) (e : Int) (hc : Con Tryz.prog Tryz.L 42 [chS c] (.int .i64 e)) (he : e ≠ 0) : Con Tryz.prog Tryz.L 16 [chS c, .str s] (.tup [.sl 0 [], .int .i64 e]) := by
  refine rule16 Tryz.hL rfl rfl rfl ?_
  (simp only [pc16, rs16, oU, oC]; refine ev ?_; try with_reducible exact trivial)
  refine callF_of hc ?_
  (refine ev ?_; try with_reducible exact trivial)
  first
  | exact ⟨fun _ => rfl, fun h => absurd he h⟩
  | exact ⟨fun _ => by simp [resD_two, rvD, lk, D.plain, D.isPure, optAll], fun h => absurd he h⟩
theorem Tryz.splitBad (c : List SP) (e : Int) (hc : Con Tryz.prog Tryz.L 42 [chS c] (.int .i64 e)) (he : e ≠ 0) : Con Tryz.prog Tryz.L 33 [chS c, chS c] (.tup [.sl 0 [], .int .i64 e]) := by
  refine rule33 Tryz.hL rfl rfl rfl ?_
  (simp only [pc33, rs33, oU, oC]; refine ev ?_; try with_reducible exact trivial)
  refine callF_of (Tryz.crossBad c e hc he) ?_
  (refine ev ?_; try with_reducible exact trivial)
  first
  | exact ⟨fun _ => rfl, fun h => absurd he h⟩
  | exact ⟨fun _ => by simp [resD_two, rvD, lk, D.plain, D.isPure, optAll], fun h => absurd he h⟩
theorem Tryz.aroundBad (c : List SP) (e : Int) (hc : Con Tryz.prog Tryz.L 38 [chS c] (.int .i64 e)) (he : e ≠ 0) : Con Tryz.prog Tryz.L 37 [chS c] (.tup [.sl 0 [], .int .i64 e]) := by
  refine rule37 Tryz.hL rfl rfl rfl ?_
  (simp only [pc37, rs37, oU, oC]; refine ev ?_; try with_reducible exact trivial)
  refine callF_of hc ?_
  (refine ev ?_; try with_reducible exact trivial)
  first
  | exact ⟨fun _ => rfl, fun h => absurd he h⟩
  | exact ⟨fun _ => by simp [resD_two, rvD, lk, D.plain, D.isPure, optAll], fun h => absurd he h⟩
theorem Tryz.areaBad (c : List SP) (e : Int) (hc : Con Tryz.prog Tryz.L 38 [chS c] (.int .i64 e)) (he : e ≠ 0) : Con Tryz.prog Tryz.L 30 [chS c] (.tup [.str [], .int .i64 e]) := by
  refine rule30 Tryz.hL rfl rfl rfl ?_
  (simp only [pc30, rs30, oU, oC]; refine ev ?_; try with_reducible exact trivial)
  refine callF_of hc ?_
  (refine ev ?_; try with_reducible exact trivial)
  first
  | exact ⟨fun _ => rfl, fun h => absurd he h⟩
  | exact ⟨fun _ => by simp [resD_two, rvD, lk, D.plain, D.isPure, optAll], fun h => absurd he h⟩
theorem Tryz.locateBad (c : List SP) (p : SP) (e : Int) (hc : Con Tryz.prog Tryz.L 38 [chS c] (.int .i64 e)) (he : e ≠ 0) : Con Tryz.prog Tryz.L 27 [chS c, .agg (spD p)] (.tup [.int .i64 0, .int .i64 e]) := by
  refine rule27 Tryz.hL rfl rfl rfl ?_
  simp only [spD, pc27, rs27, oU, oC, evX, evY, evZ, forall_const, implies_true, initE, stepF, D.clean, mvF, moF, tkF, shF, ariF, ciF, catF, scF, ebF, eqF, eqOk, eqPr, enF, notF, ngF, cvF, csF, csbF, lenF, lenSF, ixF, iaF, PX.slot, iaAF, faF, ldF, D.mem, stF, bxF, mkSF, boundF, fldF, ixAF, mmF2, D.plain, D.isPure, optAll, D.dull, callVF, splice, D.cells, D.one, sets, resT, D.flat, D.flat0, D.simple, Nat.reduceBNe, Nat.reduceLT, reduceIte, Nat.reduceEqDiff, Nat.reduceAdd, Nat.reduceMul, Nat.reduceSub, Nat.reduceLeDiff, Int.reduceToNat, Int.reduceLT, Int.reduceLE, Int.reduceEq, Int.reduceNeg, Int.reduceSub, Int.reduceAdd, Int.reduceMul, stG_own]
  refine callF_of hc ?_
  (refine ev ?_; try with_reducible exact trivial)
  first
  | exact ⟨fun _ => rfl, fun h => absurd he h⟩
  | exact ⟨fun _ => by simp [resD_two, rvD, lk, D.plain, D.isPure, optAll], fun h => absurd he h⟩
end Go.Proofs

/-
  POLYLINE: few: the lists that the law PolylineChecks looks at. Own work.
-/
namespace Go.Proofs
open Go Go.Pi Go.RowKit Go.Ar Go.Ge

/-- short texts, few points -/
def fewS (c : List SP) : Prop := (∀ p ∈ c, p.1.length ≤ 20 ∧ p.2.length ≤ 20) ∧ (c.length ≤ 8 ∨ c.length = 401)
theorem dB_congr {p q : Prop} (h : p ↔ q) : dB p = dB q := by rw [propext h]
set_option maxRecDepth 100000 in
set_option maxHeartbeats 8000000 in
theorem Tryz.pfew (c : List SP) (hlen : c.length ≤ 1048576) : Con Tryz.prog Tryz.L 41 [chS c] (.bool (dB (fewS c))) := by
  refine rule41 Tryz.hL rfl rfl rfl ?_
  (simp only [pc41, rs41, oU, oC]; refine ev ?_; try with_reducible exact trivial)
  refine loopF_of (fun E => ∃ i : Nat, i ≤ c.length ∧ (∀ j, j < i → (gs c j).1.length ≤ 20 ∧ (gs c j).2.length ≤ 20) ∧ E = [(0, chS c), (3, .int .i64 i)])
    (fun E => match lk E 3 with | .int _ i => c.length - i.toNat | _ => 0) ⟨0, by omega, fun _ h => absurd h (by omega), rfl⟩ ?_
  rintro _ ⟨i, hi, hno, rfl⟩
  simp only [evX, evY, evZ, forall_const, implies_true, initE, stepF, D.clean, mvF, moF, tkF, shF, ariF, ciF, catF, scF, ebF, eqF, eqOk, eqPr, enF, notF, ngF, cvF, csF, csbF, lenF, lenSF, ixF, iaF, PX.slot, iaAF, faF, ldF, D.mem, stF, bxF, mkSF, boundF, fldF, ixAF, mmF2, D.plain, D.isPure, optAll, D.dull, callVF, splice, D.cells, D.one, sets, resT, D.flat, D.flat0, D.simple, Nat.reduceBNe, Nat.reduceLT, reduceIte, Nat.reduceEqDiff, Nat.reduceAdd, Nat.reduceMul, Nat.reduceSub, Nat.reduceLeDiff, Int.reduceToNat, Int.reduceLT, Int.reduceLE, Int.reduceEq, Int.reduceNeg, Int.reduceSub, Int.reduceAdd, Int.reduceMul, stG_own, ldC_sps]
  refine ⟨fun h1 => ⟨⟨by omega, by omega, by rw [sps_len]; omega⟩, ?_⟩, fun h1 => ?_⟩
  · have hg := gs_eq (show i < c.length by omega)
    obtain ⟨r, e⟩ := rows_at spD_len hg
    have hx : List.take 2 (List.drop (i * 2) (sps c)) = spD (gs c i) := by rw [e]; rfl
    have hcs : (∀ q ∈ c, q.1.length ≤ 20 ∧ q.2.length ≤ 20) → (gs c i).1.length ≤ 20 ∧ (gs c i).2.length ≤ 20 := fun h => h _ (List.mem_of_getElem? hg)
    have hnx : (gs c i).1.length ≤ 20 ∧ (gs c i).2.length ≤ 20 → ∃ i_1 : Nat, i_1 ≤ c.length ∧ (∀ j, j < i_1 → (gs c j).1.length ≤ 20 ∧ (gs c j).2.length ≤ 20) ∧ ((3 : Nat), D.int IntKind.i64 ((i : Int) + 1)) = (3, D.int IntKind.i64 (i_1 : Int)) := fun h => ⟨i + 1, by omega, fun j hj => by
      by_cases e : j = i
      · rw [e]; exact h
      · exact hno j (by omega), by simp⟩
    rw [hx]
    simp only [spD, evX, evY, evZ, forall_const, implies_true, initE, stepF, D.clean, mvF, moF, tkF, shF, ariF, ciF, catF, scF, ebF, eqF, eqOk, eqPr, enF, notF, ngF, cvF, csF, csbF, lenF, lenSF, ixF, iaF, PX.slot, iaAF, faF, ldF, D.mem, stF, bxF, mkSF, boundF, fldF, ixAF, mmF2, D.plain, D.isPure, optAll, D.dull, callVF, splice, D.cells, D.one, sets, resT, D.flat, D.flat0, D.simple, Nat.reduceBNe, Nat.reduceLT, reduceIte, Nat.reduceEqDiff, Nat.reduceAdd, Nat.reduceMul, Nat.reduceSub, Nat.reduceLeDiff, Int.reduceToNat, Int.reduceLT, Int.reduceLE, Int.reduceEq, Int.reduceNeg, Int.reduceSub, Int.reduceAdd, Int.reduceMul, stG_own]
    refine ⟨fun h2 => ⟨⟨by omega, by omega, by rw [sps_len]; omega⟩, ?_⟩, fun h2 => ?_⟩
    · rw [hx]
      simp only [spD, evX, evY, evZ, forall_const, implies_true, initE, stepF, D.clean, mvF, moF, tkF, shF, ariF, ciF, catF, scF, ebF, eqF, eqOk, eqPr, enF, notF, ngF, cvF, csF, csbF, lenF, lenSF, ixF, iaF, PX.slot, iaAF, faF, ldF, D.mem, stF, bxF, mkSF, boundF, fldF, ixAF, mmF2, D.plain, D.isPure, optAll, D.dull, callVF, splice, D.cells, D.one, sets, resT, D.flat, D.flat0, D.simple, Nat.reduceBNe, Nat.reduceLT, reduceIte, Nat.reduceEqDiff, Nat.reduceAdd, Nat.reduceMul, Nat.reduceSub, Nat.reduceLeDiff, Int.reduceToNat, Int.reduceLT, Int.reduceLE, Int.reduceEq, Int.reduceNeg, Int.reduceSub, Int.reduceAdd, Int.reduceMul, stG_own, List.drop_succ_cons, List.drop_zero]
      exact ⟨fun h3 => (dB_f fun h => by have := hcs h.1; omega).symm, fun h3 => ⟨⟨by omega, by omega⟩, hnx ⟨by omega, by omega⟩, by omega⟩⟩
    · exact (dB_f fun h => by have := hcs h.1; omega).symm
  · have hiff : fewS c ↔ (c.length ≤ 8 ∨ c.length = 401) := ⟨fun h => h.2, fun h => ⟨fun p hp => by
      obtain ⟨j, hj, e⟩ := List.getElem_of_mem hp
      have h2 := gs_eq hj
      rw [List.getElem?_eq_getElem hj, e] at h2
      rw [Option.some.inj h2]
      exact hno j (by omega), h⟩⟩
    refine ⟨fun h2 => ?_, fun h2 => ?_⟩
    · exact dB_congr (by rw [hiff]; omega)
    · exact (dB_t (hiff.2 (.inl (by omega)))).symm
end Go.Proofs

/-
  POLYLINE: the law PolylineChecks. Own work.
-/
namespace Go.Proofs
open Go Go.Pi Go.RowKit Go.Ar Go.Ge

set_option maxRecDepth 100000 in
set_option maxHeartbeats 16000000 in
theorem Tryz.polyChecks (c : List SP) (hlen : c.length ≤ 1048576) : Con Tryz.prog Tryz.L 10 [chS c] (.bool true) := by
  refine rule10 Tryz.hL rfl rfl rfl ?_
  (simp only [pc10, rs10, oU, oC]; refine ev ?_; try with_reducible exact trivial)
  refine callF_of Tryz.known11 ?_
  (refine ev ?_; try with_reducible exact trivial)
  refine callF_of (Tryz.pfew c hlen) ?_
  (refine ev ?_; try with_reducible exact trivial)
  refine ⟨fun h1 => callF_of Tryz.known11 (by (refine ev ?_; try with_reducible exact trivial)), fun h1 => ?_⟩
  have hf : fewS c := Classical.not_not.1 h1
  obtain ⟨hl, h8⟩ := hf
  have hn : c.length ≤ 1000 := by omega
  refine callF_of (Tryz.lcheckS c false hn hl) ?_
  (refine ev ?_; try with_reducible exact trivial)
  refine callF_of (Tryz.lcheckS c true hn hl) ?_
  (refine ev ?_; try with_reducible exact trivial)
  have hC := Tryz.pcheckS c hn hl
  have hR := Tryz.pringS c hn hl
  generalize chkS c false = e1 at hC ⊢
  generalize chkS c true = e2 at hR ⊢
  refine callF_of hC ?_
  (refine ev ?_; try with_reducible exact trivial)
  refine callF_of hR ?_
  (refine ev ?_; try with_reducible exact trivial)
  refine ⟨fun h2 => ?_, fun _ h3 => ?_⟩
  · refine callF_of (Tryz.lengthBad c e1 hC h2) ?_
    (refine ev ?_; try with_reducible exact trivial)
    refine callF_of (Tryz.hasBad c ([], []) e1 hC h2) ?_
    (refine ev ?_; try with_reducible exact trivial)
    refine callF_of (Tryz.crossBad c e1 hC h2) ?_
    (refine ev ?_; try with_reducible exact trivial)
    refine callF_of (Tryz.splitBad c e1 hC h2) ?_
    (refine ev ?_; try with_reducible exact trivial)
    refine callF_of (Tryz.joinBad c e1 hC h2) ?_
    (refine ev ?_; try with_reducible exact trivial)
    refine callF_of (Tryz.simpBad c [120] (by decide) e1 hC h2) ?_
    (refine ev ?_; try with_reducible exact trivial)
    refine ⟨⟨by omega, by omega⟩, ⟨by omega, by omega⟩, ⟨by omega, by omega⟩, ⟨by omega, by omega⟩, fun _ h3 => ?_, fun h => absurd h (by omega)⟩
    refine callF_of (Tryz.aroundBad c e2 hR h3) ?_
    (refine ev ?_; try with_reducible exact trivial)
    refine callF_of (Tryz.areaBad c e2 hR h3) ?_
    (refine ev ?_; try with_reducible exact trivial)
    refine callF_of (Tryz.orientBad c e2 hR h3) ?_
    (refine ev ?_; try with_reducible exact trivial)
    refine callF_of (Tryz.locateBad c ([], []) e2 hR h3) ?_
    (refine ev ?_; try with_reducible exact trivial)
    exact ⟨⟨by omega, by omega⟩, fun h => absurd h (by omega)⟩
  · refine callF_of (Tryz.aroundBad c e2 hR h3) ?_
    (refine ev ?_; try with_reducible exact trivial)
    refine callF_of (Tryz.areaBad c e2 hR h3) ?_
    (refine ev ?_; try with_reducible exact trivial)
    refine callF_of (Tryz.orientBad c e2 hR h3) ?_
    (refine ev ?_; try with_reducible exact trivial)
    refine callF_of (Tryz.locateBad c ([], []) e2 hR h3) ?_
    (refine ev ?_; try with_reducible exact trivial)
    exact ⟨⟨by omega, by omega⟩, fun h => absurd h (by omega)⟩
end Go.Proofs
