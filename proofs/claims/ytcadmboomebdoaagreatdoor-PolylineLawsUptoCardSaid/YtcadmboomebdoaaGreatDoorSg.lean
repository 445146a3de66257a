/-
 POLYLINE: slices.Delete of one point, in the plain walk. Own work.
-/
import Derived.Test.YtcadmboomebdoaaGreatDoorSf
import Derived.Test.YtcadmboomebdoaaGreatDoorEg
import Derived.Deep.RegionHeld3
import Derived.Deep.LoopGhost
import Derived.Shelf.RegionOpenPlain
import Derived.Test.YtcadmboomebdoaaGreatDoorPj
import Derived.Shelf.Abstract
import Derived.WalkKit
import Derived.OwnWalkIn
import Derived.TacticsInMore
import Derived.LoopNIn
import Derived.LoopIn
import Derived.BigCall
import Derived.BigGuard
import Derived.Test.YtcadmboomebdoaaGreatDoorEc
import Derived.Deep.AppendLies
set_option linter.unusedVariables false
set_option linter.unusedSimpArgs false
namespace Go.Proofs
open Go Go.Pi Go.RowKit Go.Shelf Go.Ar Go.Ge

/-- the cells of points -/
abbrev pce (l : List Pt) : List Value := cel2 (fun p : Pt => rt p.1) (fun p : Pt => rt p.2) l

set_option maxRecDepth 100000 in
set_option maxHeartbeats 4000000 in
theorem Tryz.pdelete (w0 W : World) (v : Value) (l : List Pt) (i : Nat) (hL0 : Tryz.L w0) (hbw : Below w0.heap.size w0 W) (hown : W.ownsRow w0.heap.size 35 2 v l.length (pce l)) (hlen : l.length ≤ 1000) (hi : i + 1 < l.length) :
  Calls Tryz.prog 53 #[v, .int .i64 i, .int .i64 (i + 1 : Nat)] W fun e W' => ∃ v', e = .returned v' ∧
   W'.ownsRow w0.heap.size 35 2 v' (l.eraseIdx i).length (pce (l.eraseIdx i)) ∧ W.grownBy W' v.ownBlock ∧ Below w0.heap.size w0 W' := by
 have mixed : Tryz.prog.follows .mixedOrders = true := by kernel_rfl
 have t0 := Tryz.underlying24; have a0 := Tryz.isAgg24; have z0 := Tryz.sizeOf24; have v0 := Tryz.zeroValue24; have u0 := run_underlying Tryz.underlying24
 have t1 := Tryz.underlying35; have a1 := Tryz.isAgg35; have z1 := Tryz.sizeOf35; have v1 := Tryz.zeroValue35; have u1 := run_underlying Tryz.underlying35
 have t3 := Tryz.underlying4; have a3 := Tryz.isAgg4; have z3 := Tryz.sizeOf4; have v3 := Tryz.zeroValue4; have u3 := run_underlying Tryz.underlying4
 have t4 := Tryz.underlying3; have a4 := Tryz.isAgg3; have z4 := Tryz.sizeOf3; have v4 := Tryz.zeroValue3; have u4 := run_underlying Tryz.underlying3
 have hinfo : (Tryz.prog.info? 35).map (fun i => (i.zero, i.size, i.bytes)) = some (some (.agg #[.string ⟨#[]⟩, .string ⟨#[]⟩]), 2, 32) := by kernel_rfl
 obtain ⟨i0, hi0, hz0, hz1, hz2⟩ : ∃ i0, Tryz.prog.info? 35 = some i0 ∧ i0.zero = some (.agg #[.string ⟨#[]⟩, .string ⟨#[]⟩]) ∧ i0.size = 2 ∧ i0.bytes = 32 := by
  cases hh : Tryz.prog.info? 35 with
  | none => rw [hh] at hinfo; cases hinfo
  | some i0 =>
    rw [hh] at hinfo
    simp only [Option.map_some, Option.some.injEq, Prod.mk.injEq] at hinfo
    exact ⟨i0, rfl, hinfo.1, hinfo.2.1, hinfo.2.2⟩
 obtain ⟨g, cap, rfl, hg1, hg2⟩ := hown.form (by omega)
 have hcap : l.length ≤ cap ∧ cap ≤ maxLen := by
  rcases hown.2 with ⟨h1, h2⟩ | ⟨g', cap', cur, h1, _, _, h2, h3, _⟩
  ·omega
  ·cases h1; exact ⟨h2, h3⟩
 have hcl := cel2_len (fun p : Pt => rt p.1) (fun p : Pt => rt p.2) l
 obtain ⟨m, hm⟩ : ∃ m, l.length = i + 1 + m := ⟨l.length - (i + 1), by omega⟩
 have hlt1 : ((i : Int) == ((i + 1 : Nat) : Int)) = false := beq_eq_false_iff_ne.2 (by omega)
 have hlt2 : ((i : Int) == (i : Int) + 1) = false := beq_eq_false_iff_ne.2 (by omega)
 have hne : ¬(cap = i + 1) := by omega
 have hne2 : ¬(cap = i + m) := by omega
 have hm1 : l.length - (i + 1) = m := by omega
 have hx1 : Hid (W.drew.ownsRow w0.heap.size 35 2 (.slice (some ⟨g, 0, none⟩) i cap) i ((pce l).take (i * 2))) := own_less hown.drew (by omega)
 have hx2 : Hid (((pce l).drop ((i + 1) * 2)).length = m * 2) := by
  show _ = _
  rw [List.length_drop, hcl]; omega
 have hx3 : Hid (∀ j u, ((pce l).drop ((i + 1) * 2))[j]? = some u → W.drew.cell? ((⟨g, (i + 1) * 2, none⟩ : Addr).add j) = some u) := fun j u hu => by
  rw [List.getElem?_drop] at hu
  have hlt := (List.getElem?_eq_some_iff.1 hu).1
  rw [hcl] at hlt
  rw [Addr.add_lit, hown.drew.cellAt _ hlt]; exact hu
 have hx4 : Hid (∀ u ∈ (pce l).drop ((i + 1) * 2), u.oneCell' = true) := fun u hu => cel2_one _ _ l u (List.mem_of_mem_drop hu)
 have hxx : (pce l).take (i * 2) ++ (pce l).drop ((i + 1) * 2) = pce (l.eraseIdx i) := by
  rw [cel2_take _ _ l i (by omega), cel2_drop _ _ l (i + 1) (by omega), ← cel2_app, List.eraseIdx_eq_take_drop_succ]
 have HXX : Hid ((pce l).take (i * 2) ++ (pce l).drop ((i + 1) * 2) = pce (l.eraseIdx i)) := hxx
 have hel : (l.eraseIdx i).length = i + m := by rw [List.length_eraseIdx_of_lt (by omega)]; omega
 have HEL : Hid ((l.eraseIdx i).length = i + m) := hel
 have HOWN : Hid (W.ownsRow w0.heap.size 35 2 (.slice (some ⟨g, 0, none⟩) l.length cap) l.length (pce l)) := hown
 have hb1 : ((i : Int) + (m : Int)) ≤ (l.length : Int) := by omega
 have hb2 : (0 : Int) ≤ (i : Int) + (m : Int) := by omega
 have hb3 : ((i : Int) + (m : Int)).toNat = i + m := by omega
 have hb4 : i + m ≤ l.length := by omega
 have hbc := hcap.1
 have hic : i ≤ cap := by omega
 have hi1 : ((i + 1 : Nat) : Int) ≤ (l.length : Int) := by omega
 have hi2 : (i : Int) + 1 ≤ (l.length : Int) := by omega
 have hi3 : (0 : Int) ≤ (i : Int) + 1 := by omega
 have hi4 : ((i : Int) + 1).toNat = i + 1 := by omega
 have HM : Hid (l.length = i + 1 + m) := hm
 clear hxx hel hown hcl hm hlen
 go_enter Tryz.func53, Tryz.ntmps53
 go_wp2_with fail
 go_region_law (refine step_append_fits _ rfl (.tmp 22) (.tmp 25) 24 rfl w0.heap.size 35 i0 2 Tryz.underlying24 hi0 hz1 g i cap _ (by simp [Act.eval, Act.put]) hx1.out ⟨g, (i + 1) * 2, none⟩ m (cap - (i + 1)) _ (by simp [Act.eval, Act.put, hm1, hne]) hx2.out hx3.out hx4.out (by have := HM.out; omega) ?_; intro w1 hw1 hg1')
 obtain ⟨ys, hys⟩ := own_more hw1 hb4 hbc
 obtain ⟨w2, hcl2, hw2, hg2'⟩ := clear_row2 t0 v1 rfl (by simp [Value.cells, Value.oneCell']) hys (show i + m < l.length by have := HM.out; omega)
 go_wp2
 go_ret
 have hgr : W.grownBy w2 (some g) := gr_trans (gr_trans (gr_drew (gr_self W)) hg1') hg2'
 refine ⟨.slice (some ⟨g, 0, none⟩) (i + m) cap, by simp, ?_, hgr, hbw.grown hgr hbw.size (fun k hk => by cases hk; exact hg1)⟩
 rw [HEL.out, ← HXX.out]
 rw [List.take_left' hw1.1] at hw2
 exact hw2
end Go.Proofs

/-
 POLYLINE: within, on, collinear, meet, crossed, simple, Check. Own work.
-/
namespace Go.Proofs
open Go Go.Pi Go.RowKit Go.Ar Go.Ge

theorem mn_swap {a b : Pt} (h : 0 < cmpP a b) : mn a b = b ∧ mx a b = a := by
 have := (cmpP_gt a b).1 h
 unfold mn mx
 rw [if_neg this, if_neg this]; exact ⟨rfl, rfl⟩
theorem mn_same {a b : Pt} (h : ¬0 < cmpP a b) : mn a b = a ∧ mx a b = b := by
 have : le a b := by rw [← cmpP_le]; omega
 unfold mn mx
 rw [if_pos this, if_pos this]; exact ⟨rfl, rfl⟩
set_option maxHeartbeats 4000000 in
theorem Tryz.pwithin (a b p : Pt) (ha : Sz 300 a) (hb : Sz 300 b) (hp : Sz 300 p) : Con Tryz.prog Tryz.L 115 [ptD a, ptD b, ptD p] (.bool (decide (le (mn a b) p ∧ le p (mx a b)))) := by
 have c1 := Tryz.pcompare a b ha hb
 have c2 := Tryz.pcompare a p ha hp
 have c3 := Tryz.pcompare b p hb hp
 have c4 := Tryz.pcompare p a hp ha
 have c5 := Tryz.pcompare p b hp hb
 refine rule115 Tryz.hL rfl rfl rfl ?_
 (try simp only [ptD, pc115, rs115, oU, oC]; refine ev ?_; try exact ⟨⟩)
 refine callF_of c1 ?_
 (refine ev ?_; try exact ⟨⟩)
 refine ⟨fun h => ?_, fun h => ?_⟩
 ·rw [(mn_swap h).1, (mn_swap h).2]
  refine callF_of c3 ?_
  (refine ev ?_; try exact ⟨⟩)
  refine ⟨fun h1 => ?_, fun h1 => by rw [cmpP_le] at h1; simp [h1]⟩
  refine callF_of c4 ?_
  (refine ev ?_; try exact ⟨⟩)
  rw [cmpP_le] at h1
  rw [cmpP_le, dB_dec]; simp [h1]
 ·rw [(mn_same h).1, (mn_same h).2]
  refine callF_of c2 ?_
  (refine ev ?_; try exact ⟨⟩)
  refine ⟨fun h1 => ?_, fun h1 => by rw [cmpP_le] at h1; simp [h1]⟩
  refine callF_of c5 ?_
  (refine ev ?_; try exact ⟨⟩)
  rw [cmpP_le] at h1
  rw [cmpP_le, dB_dec]; simp [h1]
theorem btw_mn {a b p : Pt} (h : ar a b p = 0) : btw a b p ↔ le (mn a b) p ∧ le p (mx a b) := btw_col h
theorem trn_zero {a b c : Pt} : trn a b c = 0 ↔ ar a b c = 0 := by
 unfold trn
 rw [Int.sign_eq_zero_iff_zero, Rat.num_eq_zero]
set_option maxHeartbeats 4000000 in
theorem Tryz.pon (a b p : Pt) (ha : Sz 300 a) (hb : Sz 300 b) (hp : Sz 300 p) : Con Tryz.prog Tryz.L 61 [ptD a, ptD b, ptD p] (.bool (decide (btw a b p))) := by
 have c1 := Tryz.pturn a b p ha hb hp
 have c2 := Tryz.pwithin a b p ha hb hp
 refine rule61 Tryz.hL rfl rfl rfl ?_
 (try simp only [ptD, pc61, rs61, oU, oC]; refine ev ?_; try exact ⟨⟩)
 refine callF_of c1 ?_
 (refine ev ?_; try exact ⟨⟩)
 rw [trn_zero]
 refine ⟨fun h => ?_, fun h => ?_⟩
 ·refine callF_of c2 ?_
  (refine ev ?_; try exact ⟨⟩)
  rw [decide_eq_decide.2 (btw_mn h)]
 ·rw [decide_eq_false (fun k => h k.1)]
/-- how two segments meet, as data -/
def mtD : Mt → D
 | .apart => .tup [.int .i64 0, .agg [.str [], .str []]]
 | .touch p => .tup [.int .i64 1, ptD p]
 | .over => .tup [.int .i64 2, .agg [.str [], .str []]]
theorem mtD_al (m : Mt) : aliasOf (mtD m) = none := by cases m <;> rfl
theorem fin0 : resD [(8, D.int IntKind.i64 0), (9, D.box true [D.str [], D.str []])] [RV.t 8, RV.c 9 true 2] = some (mtD .apart) := by
 simp [resD_two, rvD, lk, D.plain, D.isPure, optAll, mtD, ofCells]
theorem fin1 (p : Pt) : resD [(8, D.int IntKind.i64 1), (9, D.box true [D.str (rt p.1), D.str (rt p.2)])] [RV.t 8, RV.c 9 true 2] = some (mtD (.touch p)) := by
 simp [resD_two, rvD, lk, D.plain, D.isPure, optAll, mtD, ptD, ofCells]
theorem fin2 : resD [(8, D.int IntKind.i64 2), (9, D.box true [D.str [], D.str []])] [RV.t 8, RV.c 9 true 2] = some (mtD .over) := by
 simp [resD_two, rvD, lk, D.plain, D.isPure, optAll, mtD, ofCells]
/-- segments on one line, each from its lesser end on -/
def colS (a b c d : Pt) : Mt :=
 if 0 < cmpP (if 0 < cmpP c a then c else a) (if cmpP d b < 0 then d else b) then .apart
 else if cmpP (if 0 < cmpP c a then c else a) (if cmpP d b < 0 then d else b) = 0 then .touch (if 0 < cmpP c a then c else a) else .over
theorem low_eq {a c : Pt} : (if 0 < cmpP c a then c else a) = mx a c := by
 unfold mx
 split
 ·rename_i h
  rw [cmpP_gt] at h
  rw [if_pos ((le_total a c).resolve_right h)]
 ·rename_i h
  rw [cmpP_gt, Classical.not_not] at h
  split
  ·rename_i h2; exact le_antisymm h2 h
  ·rfl
theorem high_eq {b d : Pt} : (if cmpP d b < 0 then d else b) = mn b d := by
 unfold mn
 split
 ·rename_i h
  rw [cmpP_lt] at h
  by_cases h2 : le b d
  ·exact absurd (le_antisymm h.1 h2) h.2
  ·rw [if_neg h2]
 ·rename_i h
  rw [cmpP_lt] at h
  split
  ·rfl
  ·rename_i h2
   by_cases e : d = b
   ·rw [e]
   ·exact absurd ⟨(le_total b d).resolve_left h2, e⟩ h
theorem colP_S (a b c d : Pt) : colP a b c d = colS (mn a b) (mx a b) (mn c d) (mx c d) := by
 unfold colS
 rw [low_eq, high_eq]
 show (if mx (mn a b) (mn c d) = mn (mx a b) (mx c d) then Mt.touch (mx (mn a b) (mn c d)) else if le (mx (mn a b) (mn c d)) (mn (mx a b) (mx c d)) then .over else .apart) = _
 generalize mx (mn a b) (mn c d) = x
 generalize mn (mx a b) (mx c d) = y
 by_cases e : x = y
 ·rw [if_pos e, if_neg (by rw [(cmpP_zero x y).2 e]; decide), if_pos ((cmpP_zero x y).2 e)]
 ·rw [if_neg e]
  by_cases h : le x y
  ·rw [if_pos h, if_neg (by rw [cmpP_gt]; exact fun k => k h), if_neg (fun k => e ((cmpP_zero x y).1 k))]
  ·rw [if_neg h, if_pos ((cmpP_gt x y).2 h)]
set_option maxHeartbeats 4000000 in
theorem Tryz.pcollinear (a b c d : Pt) (ha : Sz 300 a) (hb : Sz 300 b) (hc : Sz 300 c) (hd : Sz 300 d) : Con Tryz.prog Tryz.L 96 [ptD a, ptD b, ptD c, ptD d] (mtD (colP a b c d)) := by
 rw [colP_S]
 refine rule96 Tryz.hL (mtD_al _) rfl rfl ?_
 (try simp only [ptD, pc96, rs96, oU, oC]; refine ev ?_; try exact ⟨⟩)
 refine callF_of (Tryz.pcompare a b ha hb) ?_
 (refine ev ?_; try exact ⟨⟩)
 refine ⟨fun h => ?_, fun h => ?_⟩
 ·rw [(mn_swap h).1, (mn_swap h).2]
  refine callF_of (Tryz.pcompare c d hc hd) ?_
  (refine ev ?_; try exact ⟨⟩)
  refine ⟨fun h2 => ?_, fun h2 => ?_⟩
  ·rw [(mn_swap h2).1, (mn_swap h2).2]
   refine callF_of (Tryz.pcompare d b hd hb) ?_
   (refine ev ?_; try exact ⟨⟩)
   refine ⟨fun h3 => ?_, fun h3 => ?_⟩
   ·refine callF_of (Tryz.pcompare c a hc ha) ?_
    (refine ev ?_; try exact ⟨⟩)
    refine ⟨fun h4 => ?_, fun h4 => ?_⟩
    ·refine callF_of (Tryz.pcompare d c hd hc) ?_
     (refine ev ?_; try exact ⟨⟩)
     unfold colS
     rw [if_pos h3, if_pos h4]
     refine ⟨fun h5 => ?_, fun h5 => ⟨fun h6 => ?_, fun h6 => ?_⟩⟩
     ·rw [if_pos h5]; exact fin0
     ·rw [if_neg h5, if_pos h6]; exact fin1 _
     ·rw [if_neg h5, if_neg h6]; exact fin2
    ·refine callF_of (Tryz.pcompare d a hd ha) ?_
     (refine ev ?_; try exact ⟨⟩)
     unfold colS
     rw [if_pos h3, if_neg h4]
     refine ⟨fun h5 => ?_, fun h5 => ⟨fun h6 => ?_, fun h6 => ?_⟩⟩
     ·rw [if_pos h5]; exact fin0
     ·rw [if_neg h5, if_pos h6]; exact fin1 _
     ·rw [if_neg h5, if_neg h6]; exact fin2
   ·refine callF_of (Tryz.pcompare c a hc ha) ?_
    (refine ev ?_; try exact ⟨⟩)
    refine ⟨fun h4 => ?_, fun h4 => ?_⟩
    ·refine callF_of (Tryz.pcompare b c hb hc) ?_
     (refine ev ?_; try exact ⟨⟩)
     unfold colS
     rw [if_neg h3, if_pos h4]
     refine ⟨fun h5 => ?_, fun h5 => ⟨fun h6 => ?_, fun h6 => ?_⟩⟩
     ·rw [if_pos h5]; exact fin0
     ·rw [if_neg h5, if_pos h6]; exact fin1 _
     ·rw [if_neg h5, if_neg h6]; exact fin2
    ·refine callF_of (Tryz.pcompare b a hb ha) ?_
     (refine ev ?_; try exact ⟨⟩)
     unfold colS
     rw [if_neg h3, if_neg h4]
     refine ⟨fun h5 => ?_, fun h5 => ⟨fun h6 => ?_, fun h6 => ?_⟩⟩
     ·rw [if_pos h5]; exact fin0
     ·rw [if_neg h5, if_pos h6]; exact fin1 _
     ·rw [if_neg h5, if_neg h6]; exact fin2
  ·rw [(mn_same h2).1, (mn_same h2).2]
   refine callF_of (Tryz.pcompare c b hc hb) ?_
   (refine ev ?_; try exact ⟨⟩)
   refine ⟨fun h3 => ?_, fun h3 => ?_⟩
   ·refine callF_of (Tryz.pcompare d a hd ha) ?_
    (refine ev ?_; try exact ⟨⟩)
    refine ⟨fun h4 => ?_, fun h4 => ?_⟩
    ·refine callF_of (Tryz.pcompare c d hc hd) ?_
     (refine ev ?_; try exact ⟨⟩)
     unfold colS
     rw [if_pos h3, if_pos h4]
     refine ⟨fun h5 => ?_, fun h5 => ⟨fun h6 => ?_, fun h6 => ?_⟩⟩
     ·rw [if_pos h5]; exact fin0
     ·rw [if_neg h5, if_pos h6]; exact fin1 _
     ·rw [if_neg h5, if_neg h6]; exact fin2
    ·refine callF_of (Tryz.pcompare c a hc ha) ?_
     (refine ev ?_; try exact ⟨⟩)
     unfold colS
     rw [if_pos h3, if_neg h4]
     refine ⟨fun h5 => ?_, fun h5 => ⟨fun h6 => ?_, fun h6 => ?_⟩⟩
     ·rw [if_pos h5]; exact fin0
     ·rw [if_neg h5, if_pos h6]; exact fin1 _
     ·rw [if_neg h5, if_neg h6]; exact fin2
   ·refine callF_of (Tryz.pcompare d a hd ha) ?_
    (refine ev ?_; try exact ⟨⟩)
    refine ⟨fun h4 => ?_, fun h4 => ?_⟩
    ·refine callF_of (Tryz.pcompare b d hb hd) ?_
     (refine ev ?_; try exact ⟨⟩)
     unfold colS
     rw [if_neg h3, if_pos h4]
     refine ⟨fun h5 => ?_, fun h5 => ⟨fun h6 => ?_, fun h6 => ?_⟩⟩
     ·rw [if_pos h5]; exact fin0
     ·rw [if_neg h5, if_pos h6]; exact fin1 _
     ·rw [if_neg h5, if_neg h6]; exact fin2
    ·refine callF_of (Tryz.pcompare b a hb ha) ?_
     (refine ev ?_; try exact ⟨⟩)
     unfold colS
     rw [if_neg h3, if_neg h4]
     refine ⟨fun h5 => ?_, fun h5 => ⟨fun h6 => ?_, fun h6 => ?_⟩⟩
     ·rw [if_pos h5]; exact fin0
     ·rw [if_neg h5, if_pos h6]; exact fin1 _
     ·rw [if_neg h5, if_neg h6]; exact fin2
 ·rw [(mn_same h).1, (mn_same h).2]
  refine callF_of (Tryz.pcompare c d hc hd) ?_
  (refine ev ?_; try exact ⟨⟩)
  refine ⟨fun h2 => ?_, fun h2 => ?_⟩
  ·rw [(mn_swap h2).1, (mn_swap h2).2]
   refine callF_of (Tryz.pcompare d a hd ha) ?_
   (refine ev ?_; try exact ⟨⟩)
   refine ⟨fun h3 => ?_, fun h3 => ?_⟩
   ·refine callF_of (Tryz.pcompare c b hc hb) ?_
    (refine ev ?_; try exact ⟨⟩)
    refine ⟨fun h4 => ?_, fun h4 => ?_⟩
    ·refine callF_of (Tryz.pcompare d c hd hc) ?_
     (refine ev ?_; try exact ⟨⟩)
     unfold colS
     rw [if_pos h3, if_pos h4]
     refine ⟨fun h5 => ?_, fun h5 => ⟨fun h6 => ?_, fun h6 => ?_⟩⟩
     ·rw [if_pos h5]; exact fin0
     ·rw [if_neg h5, if_pos h6]; exact fin1 _
     ·rw [if_neg h5, if_neg h6]; exact fin2
    ·refine callF_of (Tryz.pcompare d b hd hb) ?_
     (refine ev ?_; try exact ⟨⟩)
     unfold colS
     rw [if_pos h3, if_neg h4]
     refine ⟨fun h5 => ?_, fun h5 => ⟨fun h6 => ?_, fun h6 => ?_⟩⟩
     ·rw [if_pos h5]; exact fin0
     ·rw [if_neg h5, if_pos h6]; exact fin1 _
     ·rw [if_neg h5, if_neg h6]; exact fin2
   ·refine callF_of (Tryz.pcompare c b hc hb) ?_
    (refine ev ?_; try exact ⟨⟩)
    refine ⟨fun h4 => ?_, fun h4 => ?_⟩
    ·refine callF_of (Tryz.pcompare a c ha hc) ?_
     (refine ev ?_; try exact ⟨⟩)
     unfold colS
     rw [if_neg h3, if_pos h4]
     refine ⟨fun h5 => ?_, fun h5 => ⟨fun h6 => ?_, fun h6 => ?_⟩⟩
     ·rw [if_pos h5]; exact fin0
     ·rw [if_neg h5, if_pos h6]; exact fin1 _
     ·rw [if_neg h5, if_neg h6]; exact fin2
    ·refine callF_of (Tryz.pcompare a b ha hb) ?_
     (refine ev ?_; try exact ⟨⟩)
     unfold colS
     rw [if_neg h3, if_neg h4]
     refine ⟨fun h5 => ?_, fun h5 => ⟨fun h6 => ?_, fun h6 => ?_⟩⟩
     ·rw [if_pos h5]; exact fin0
     ·rw [if_neg h5, if_pos h6]; exact fin1 _
     ·rw [if_neg h5, if_neg h6]; exact fin2
  ·rw [(mn_same h2).1, (mn_same h2).2]
   refine callF_of (Tryz.pcompare c a hc ha) ?_
   (refine ev ?_; try exact ⟨⟩)
   refine ⟨fun h3 => ?_, fun h3 => ?_⟩
   ·refine callF_of (Tryz.pcompare d b hd hb) ?_
    (refine ev ?_; try exact ⟨⟩)
    refine ⟨fun h4 => ?_, fun h4 => ?_⟩
    ·refine callF_of (Tryz.pcompare c d hc hd) ?_
     (refine ev ?_; try exact ⟨⟩)
     unfold colS
     rw [if_pos h3, if_pos h4]
     refine ⟨fun h5 => ?_, fun h5 => ⟨fun h6 => ?_, fun h6 => ?_⟩⟩
     ·rw [if_pos h5]; exact fin0
     ·rw [if_neg h5, if_pos h6]; exact fin1 _
     ·rw [if_neg h5, if_neg h6]; exact fin2
    ·refine callF_of (Tryz.pcompare c b hc hb) ?_
     (refine ev ?_; try exact ⟨⟩)
     unfold colS
     rw [if_pos h3, if_neg h4]
     refine ⟨fun h5 => ?_, fun h5 => ⟨fun h6 => ?_, fun h6 => ?_⟩⟩
     ·rw [if_pos h5]; exact fin0
     ·rw [if_neg h5, if_pos h6]; exact fin1 _
     ·rw [if_neg h5, if_neg h6]; exact fin2
   ·refine callF_of (Tryz.pcompare d b hd hb) ?_
    (refine ev ?_; try exact ⟨⟩)
    refine ⟨fun h4 => ?_, fun h4 => ?_⟩
    ·refine callF_of (Tryz.pcompare a d ha hd) ?_
     (refine ev ?_; try exact ⟨⟩)
     unfold colS
     rw [if_neg h3, if_pos h4]
     refine ⟨fun h5 => ?_, fun h5 => ⟨fun h6 => ?_, fun h6 => ?_⟩⟩
     ·rw [if_pos h5]; exact fin0
     ·rw [if_neg h5, if_pos h6]; exact fin1 _
     ·rw [if_neg h5, if_neg h6]; exact fin2
    ·refine callF_of (Tryz.pcompare a b ha hb) ?_
     (refine ev ?_; try exact ⟨⟩)
     unfold colS
     rw [if_neg h3, if_neg h4]
     refine ⟨fun h5 => ?_, fun h5 => ⟨fun h6 => ?_, fun h6 => ?_⟩⟩
     ·rw [if_pos h5]; exact fin0
     ·rw [if_neg h5, if_pos h6]; exact fin1 _
     ·rw [if_neg h5, if_neg h6]; exact fin2
end Go.Proofs

/-
 POLYLINE: meet, crossed, simple, Check. Own work.
-/
namespace Go.Proofs
open Go Go.Pi Go.RowKit Go.Ar Go.Ge

theorem trn_mul (a b c d e f : Pt) : (0 < trn a b c * trn d e f ↔ 0 < ar a b c * ar d e f) := by
 unfold trn
 generalize ar a b c = x
 generalize ar d e f = y
 have sx : ∀ z : Rat, (z.num.sign = 1 ∧ 0 < z) ∨ (z.num.sign = -1 ∧ z < 0) ∨ (z.num.sign = 0 ∧ z = 0) := fun z => by
  rcases Int.lt_trichotomy z.num 0 with h | h | h
  ·exact .inr (.inl ⟨Int.sign_eq_neg_one_of_neg h, Rat.not_le.1 fun h' => by have := Rat.num_nonneg.2 h'; omega⟩)
  ·exact .inr (.inr ⟨by rw [h]; rfl, Rat.num_eq_zero.1 h⟩)
  ·refine .inl ⟨Int.sign_eq_one_of_pos h, ?_⟩
   have h3 := Rat.num_nonneg.1 (Int.le_of_lt h)
   have h4 : z ≠ 0 := fun e => by rw [e] at h; exact absurd h (by decide)
   exact Rat.not_le.1 fun h5 => h4 (Rat.le_antisymm h5 h3)
 have hp := (sgp x y)
 rcases sx x with ⟨e1, h1⟩ | ⟨e1, h1⟩ | ⟨e1, h1⟩ <;> rcases sx y with ⟨e2, h2⟩ | ⟨e2, h2⟩ | ⟨e2, h2⟩ <;> rw [e1, e2]
 ·exact ⟨fun _ => Rat.mul_pos h1 h2, fun _ => by decide⟩
 ·exact ⟨fun h => absurd h (by decide), fun h => absurd (hp.2.1 (Rat.le_of_lt h1) (Rat.le_of_lt h2)) (Rat.not_le.2 h)⟩
 ·exact ⟨fun h => absurd h (by decide), fun h => by rw [h2, Rat.mul_zero] at h; exact absurd h (by decide)⟩
 ·exact ⟨fun h => absurd h (by decide), fun h => absurd (hp.2.2.1 (Rat.le_of_lt h1) (Rat.le_of_lt h2)) (Rat.not_le.2 h)⟩
 ·exact ⟨fun _ => by have := Rat.mul_pos (show 0 < -x by grind) (show 0 < -y by grind); grind, fun _ => by decide⟩
 ·exact ⟨fun h => absurd h (by decide), fun h => by rw [h2, Rat.mul_zero] at h; exact absurd h (by decide)⟩
 ·exact ⟨fun h => absurd h (by decide), fun h => by rw [h1, Rat.zero_mul] at h; exact absurd h (by decide)⟩
 ·exact ⟨fun h => absurd h (by decide), fun h => by rw [h1, Rat.zero_mul] at h; exact absurd h (by decide)⟩
 ·exact ⟨fun h => absurd h (by decide), fun h => by rw [h1, Rat.zero_mul] at h; exact absurd h (by decide)⟩
theorem Tryz.palong (k x y : Rat) (hk : rd k ≤ 4500) (hx : rd x ≤ 30) (hy : rd y ≤ 30) : Con Tryz.prog Tryz.L 97 ([.str (rt x), .str (rt y)] ++ [.pt [.str (rt k)]]) (.str (rt (x + k * (y - x)))) := by
 have s1 := rd_sub y x
 have s2 := rd_mul k (y - x)
 refine rule97 Tryz.hL rfl rfl rfl ?_
 (try simp only [pc97, rs97, oU, oC, List.cons_append, List.nil_append]; refine ev ?_; try exact ⟨⟩)
 refine callF_of (Tryz.rsub y x (by omega) (by omega)) ?_
 (refine ev ?_; try exact ⟨⟩)
 refine callF_of (Tryz.rmul k (y - x) (by omega) (by omega)) ?_
 (refine ev ?_; try exact ⟨⟩)
 refine callF_of (Tryz.radd x (k * (y - x)) (by omega) (by omega)) ?_
 (refine ev ?_; try exact ⟨⟩)
theorem Sz.more {k l : Nat} {p : Pt} (h : Sz k p) (hl : k ≤ l) : Sz l p := ⟨Nat.le_trans h.1 hl, Nat.le_trans h.2 hl⟩
theorem rd_ar30 {a b c : Pt} (ha : Sz 30 a) (hb : Sz 30 b) (hc : Sz 30 c) : rd (ar a b c) ≤ 245 := by
 unfold ar
 obtain ⟨a1, a2⟩ := ha
 obtain ⟨b1, b2⟩ := hb
 obtain ⟨c1, c2⟩ := hc
 have s1 := rd_sub b.1 a.1
 have s2 := rd_sub c.2 a.2
 have s3 := rd_sub b.2 a.2
 have s4 := rd_sub c.1 a.1
 have m1 := rd_mul (b.1 - a.1) (c.2 - a.2)
 have m2 := rd_mul (b.2 - a.2) (c.1 - a.1)
 have := rd_sub ((b.1 - a.1) * (c.2 - a.2)) ((b.2 - a.2) * (c.1 - a.1))
 omega
theorem trn_b (a b c : Pt) : -1 ≤ trn a b c ∧ trn a b c ≤ 1 := by
 unfold trn
 rcases Int.lt_trichotomy (ar a b c).num 0 with h | h | h
 ·rw [Int.sign_eq_neg_one_of_neg h]; decide
 ·rw [h]; decide
 ·rw [Int.sign_eq_one_of_pos h]; decide
theorem trn_prod (a b c d e f : Pt) : -1 ≤ trn a b c * trn d e f ∧ trn a b c * trn d e f ≤ 1 := by
 have h1 := trn_b a b c
 have h2 := trn_b d e f
 generalize trn a b c = x at *
 generalize trn d e f = y at *
 obtain rfl | rfl | rfl : x = -1 ∨ x = 0 ∨ x = 1 := by omega
 all_goals omega
set_option maxHeartbeats 4000000 in
theorem Tryz.pmeet (a b c d : Pt) (ha : Sz 30 a) (hb : Sz 30 b) (hc : Sz 30 c) (hd : Sz 30 d) : Con Tryz.prog Tryz.L 46 [ptD a, ptD b, ptD c, ptD d] (mtD (meetP a b c d)) := by
 have hA := ha.more (show 30 ≤ 300 by decide)
 have hB := hb.more (show 30 ≤ 300 by decide)
 have hC := hc.more (show 30 ≤ 300 by decide)
 have hD := hd.more (show 30 ≤ 300 by decide)
 have c1 := Tryz.pturn a b c hA hB hC
 have c2 := Tryz.pturn a b d hA hB hD
 have c3 := Tryz.pturn c d a hC hD hA
 have c4 := Tryz.pturn c d b hC hD hB
 have c5 := Tryz.pcollinear a b c d hA hB hC hD
 have c6 := Tryz.parea a b c hA hB hC
 have c7 := Tryz.parea a b d hA hB hD
 have r1 := rd_ar30 ha hb hc
 have r2 := rd_ar30 ha hb hd
 have r3 := rd_sub (ar a b c) (ar a b d)
 have r4 := rd_div (ar a b c) (ar a b c - ar a b d)
 have z1 := trn_zero (a := a) (b := b) (c := c)
 have z2 := trn_zero (a := a) (b := b) (c := d)
 have p1 := trn_mul a b c a b d
 have p2 := trn_mul c d a c d b
 have q1 := trn_prod a b c a b d
 have q2 := trn_prod c d a c d b
 refine rule46 Tryz.hL (mtD_al _) rfl rfl ?_
 unfold meetP
 (try simp only [ptD, pc46, rs46, oU, oC]; refine ev ?_; try exact ⟨⟩)
 refine callF_of c1 ?_
 (refine ev ?_; try exact ⟨⟩)
 refine callF_of c2 ?_
 (refine ev ?_; try exact ⟨⟩)
 refine callF_of c3 ?_
 (refine ev ?_; try exact ⟨⟩)
 refine callF_of c4 ?_
 (refine ev ?_; try exact ⟨⟩)
 generalize trn a b c = s1 at *
 generalize trn a b d = s2 at *
 generalize trn c d a = s3 at *
 generalize trn c d b = s4 at *
 refine ⟨fun h1 => ⟨fun h2 => ?_, fun h2 => ?_⟩, fun h1 => ?_⟩
 ·rw [if_pos ⟨z1.1 h1, z2.1 h2⟩]
  generalize colP a b c d = m at *
  refine callF_of c5 ?_
  cases m with
  | apart => (try simp only [mtD, ptD]; refine ev ?_; try exact ⟨⟩); exact fin0
  | touch p => (try simp only [mtD, ptD]; refine ev ?_; try exact ⟨⟩); exact fin1 _
  | over => (try simp only [mtD, ptD]; refine ev ?_; try exact ⟨⟩); exact fin2
 ·have hnz : ¬(ar a b c = 0 ∧ ar a b d = 0) := fun h => h2 (z2.2 h.2)
  rw [if_neg hnz]
  have hq0 : ¬(0 < s1 * s2) → ar a b c - ar a b d ≠ 0 := fun h => (rat_sgn (fun h' => h (p1.2 h')) hnz).1
  refine ⟨⟨by omega, by omega⟩, fun hp1 => ⟨⟨by omega, by omega⟩, fun hp2 => ?_, fun hp2 => ?_⟩, fun hp1 => ?_⟩
  ·rw [if_pos (.inr (p2.1 hp2))]; exact fin0
  ·rw [if_neg (fun h => h.elim (fun h => hp1 (p1.2 h)) (fun h => hp2 (p2.2 h)))]
   refine callF_of c6 ?_
   (refine ev ?_; try exact ⟨⟩)
   refine callF_of c7 ?_
   (refine ev ?_; try exact ⟨⟩)
   refine callF_of (Tryz.rsub (ar a b c) (ar a b d) (by omega) (by omega)) ?_
   (refine ev ?_; try exact ⟨⟩)
   refine callF_of (Tryz.rdiv (ar a b c) (ar a b c - ar a b d) (by omega) (by omega) (hq0 hp1)) ?_
   (refine ev ?_; try exact ⟨⟩)
   refine callF_of (Tryz.palong (ar a b c / (ar a b c - ar a b d)) c.1 d.1 (by omega) hc.1 hd.1) ?_
   (refine ev ?_; try exact ⟨⟩)
   refine callF_of (Tryz.palong (ar a b c / (ar a b c - ar a b d)) c.2 d.2 (by omega) hc.2 hd.2) ?_
   (refine ev ?_; try exact ⟨⟩)
   exact fin1 (atK c d (ar a b c) (ar a b d))
  ·rw [if_pos (.inl (p1.1 hp1))]; exact fin0
 ·have hnz : ¬(ar a b c = 0 ∧ ar a b d = 0) := fun h => h1 (z1.2 h.1)
  rw [if_neg hnz]
  have hq0 : ¬(0 < s1 * s2) → ar a b c - ar a b d ≠ 0 := fun h => (rat_sgn (fun h' => h (p1.2 h')) hnz).1
  refine ⟨⟨by omega, by omega⟩, fun hp1 => ⟨⟨by omega, by omega⟩, fun hp2 => ?_, fun hp2 => ?_⟩, fun hp1 => ?_⟩
  ·rw [if_pos (.inr (p2.1 hp2))]; exact fin0
  ·rw [if_neg (fun h => h.elim (fun h => hp1 (p1.2 h)) (fun h => hp2 (p2.2 h)))]
   refine callF_of c6 ?_
   (refine ev ?_; try exact ⟨⟩)
   refine callF_of c7 ?_
   (refine ev ?_; try exact ⟨⟩)
   refine callF_of (Tryz.rsub (ar a b c) (ar a b d) (by omega) (by omega)) ?_
   (refine ev ?_; try exact ⟨⟩)
   refine callF_of (Tryz.rdiv (ar a b c) (ar a b c - ar a b d) (by omega) (by omega) (hq0 hp1)) ?_
   (refine ev ?_; try exact ⟨⟩)
   refine callF_of (Tryz.palong (ar a b c / (ar a b c - ar a b d)) c.1 d.1 (by omega) hc.1 hd.1) ?_
   (refine ev ?_; try exact ⟨⟩)
   refine callF_of (Tryz.palong (ar a b c / (ar a b c - ar a b d)) c.2 d.2 (by omega) hc.2 hd.2) ?_
   (refine ev ?_; try exact ⟨⟩)
   exact fin1 (atK c d (ar a b c) (ar a b d))
  ·rw [if_pos (.inl (p1.1 hp1))]; exact fin0
/-- one pair of sides: the program's test, as a bool -/
def crM (m : Mt) (n sg i k : Nat) (gi gk : Pt) : Bool :=
 match m with
 | .apart => false
 | .over => true
 | .touch p => if next n sg i k then (if k = i + 1 ∧ p = gk then false else decide (p ≠ gi ∨ k ≠ n - 1)) else true
def crB (c : List Pt) (sg i k : Nat) : Bool := crM (meetP (gt c i) (gt c ((i + 1) % c.length)) (gt c k) (gt c ((k + 1) % c.length))) c.length sg i k (gt c i) (gt c k)
theorem crB_iff (c : List Pt) (sg i k : Nat) : crB c sg i k = true ↔ crossP (gt c) c.length sg i k := by
 unfold crB crM crossP
 generalize meetP (gt c i) (gt c ((i + 1) % c.length)) (gt c k) (gt c ((k + 1) % c.length)) = m
 cases m with
 | apart => simp
 | over => simp
 | touch p =>
   by_cases h : next c.length sg i k
   ·simp only [h, if_true, not_true_eq_false, if_false]
    by_cases h2 : k = i + 1 ∧ p = gt c k
    ·rw [if_pos h2, if_pos h2]; simp
    ·rw [if_neg h2, if_neg h2, decide_eq_true_eq]
   ·simp [h]
set_option maxRecDepth 100000 in
set_option maxHeartbeats 4000000 in
theorem Tryz.pcrossed (c : List Pt) (sg i k : Nat) (hlen : c.length ≤ 400) (hs : sg ≤ c.length) (hik : i < k) (hk : k < sg) (hsz : ∀ p ∈ c, Sz 30 p) : Con Tryz.prog Tryz.L 132 [chn c, .int .i64 sg, .int .i64 i, .int .i64 k] (.bool (crB c sg i k)) := by
 have hg : ∀ j, j < c.length → c[j]? = some (gt c j) := fun j hj => by
  rw [List.getElem?_eq_getElem hj]; simp [gt, List.getD_eq_getElem?_getD, hj]
 have hz : ∀ j, j < c.length → Sz 30 (gt c j) := fun j hj => hsz _ (List.mem_of_getElem? (hg j hj))
 have hn : 0 < c.length := by omega
 have e1 : ((i : Int) + 1).tmod (c.length : Int) = (((i + 1) % c.length : Nat) : Int) := rfl
 have e2 : ((k : Int) + 1).tmod (c.length : Int) = (((k + 1) % c.length : Nat) : Int) := rfl
 have m1 : (i + 1) % c.length < c.length := Nat.mod_lt _ hn
 have m2 : (k + 1) % c.length < c.length := Nat.mod_lt _ hn
 have cm := Tryz.pmeet (gt c i) (gt c ((i + 1) % c.length)) (gt c k) (gt c ((k + 1) % c.length)) (hz _ (by omega)) (hz _ m1) (hz _ (by omega)) (hz _ m2)
 unfold crB
 generalize meetP (gt c i) (gt c ((i + 1) % c.length)) (gt c k) (gt c ((k + 1) % c.length)) = m at *
 refine rule132 Tryz.hL rfl rfl rfl ?_
 (simp only [pc132, rs132, oU, oC]; refine ev ?_; repeat (simp only [ldC_pts]; try refine ev ?_); try exact ⟨⟩)
 rw [e1, e2]
 simp only [Int.toNat_natCast]
 refine ⟨⟨by omega, by omega, by rw [pts_len]; omega⟩, _, hg i (by omega), ⟨by omega, by omega⟩, by omega, ⟨by omega, by omega, by rw [pts_len]; omega⟩, _, hg _ m1, ⟨by omega, by omega, by rw [pts_len]; omega⟩, _, hg k (by omega), ⟨by omega, by omega⟩, by omega, ⟨by omega, by omega, by rw [pts_len]; omega⟩, _, hg _ m2, ?_⟩
 refine callF_of cm ?_
 cases m with
 | apart =>
   (try simp only [mtD, ptD]; refine ev ?_; repeat (simp only [ldC_pts]; try refine ev ?_); try exact ⟨⟩)
   exact ⟨⟨by omega, by omega⟩, fun _ => ⟨fun _ => ⟨fun _ => ⟨⟨by omega, by omega⟩, rfl⟩, fun _ => rfl⟩, fun _ => rfl⟩, fun _ => rfl⟩
 | over =>
   (try simp only [mtD, ptD]; refine ev ?_; repeat (simp only [ldC_pts]; try refine ev ?_); try exact ⟨⟩)
   exact ⟨⟨by omega, by omega⟩, fun _ => ⟨fun _ => ⟨fun _ => ⟨⟨by omega, by omega⟩, rfl⟩, fun _ => rfl⟩, fun _ => rfl⟩, fun _ => rfl⟩
 | touch p =>
   (try simp only [mtD, ptD]; refine ev ?_; repeat (simp only [ldC_pts]; try refine ev ?_); try exact ⟨⟩)
   have eqp : ∀ x : Pt, eqPr [2, 2] [D.str (rt p.1), D.str (rt p.2)] (pD x) = (p = x) := fun x => propext (eq_pt p x)
   have eqo : ∀ x : Pt, eqOk [2, 2] [D.str (rt p.1), D.str (rt p.2)] (pD x) = True := fun x => eq_true (eqOk_pt p x)
   have b1 : (-9223372036854775808 ≤ (i : Int) + 1 ∧ (i : Int) + 1 ≤ 9223372036854775807) = True := eq_true ⟨by omega, by omega⟩
   have b2 : (-9223372036854775808 ≤ (c.length : Int) - 1 ∧ (c.length : Int) - 1 ≤ 9223372036854775807) = True := eq_true ⟨by omega, by omega⟩
   have b3 : (0 ≤ (k : Int) ∧ (k : Int) < (c.length : Int) ∧ k * 2 + 2 ≤ (pts c).length) = True := eq_true ⟨by omega, by omega, by rw [pts_len]; omega⟩
   have b4 : (0 ≤ (i : Int) ∧ (i : Int) < (c.length : Int) ∧ i * 2 + 2 ≤ (pts c).length) = True := eq_true ⟨by omega, by omega, by rw [pts_len]; omega⟩
   have n1 : ((k : Int) = (i : Int) + 1) = (k = i + 1) := propext (by omega)
   have n2 : ((sg : Int) = (c.length : Int)) = (sg = c.length) := propext (by omega)
   have n3 : ((i : Int) = 0) = (i = 0) := propext (by omega)
   have n4 : ((k : Int) = (c.length : Int) - 1) = (k = c.length - 1) := propext (by omega)
   simp only [eqp, eqo, b1, b2, b3, b4, n1, n2, n3, n4, hg k (by omega), hg i (by omega), Option.some.injEq, exists_eq_left', true_and, Classical.not_not, crM, next]
   rcases Classical.propComplete (k = i + 1) with A | A <;> rcases Classical.propComplete (p = gt c k) with E | E <;> rcases Classical.propComplete (p = gt c i) with F | F <;> rcases Classical.propComplete (k = c.length - 1) with G | G <;> rcases Classical.propComplete (sg = c.length) with B | B <;> rcases Classical.propComplete (i = 0) with C | C <;> simp [A, B, C, G, E, F, dB_True, dB_False]
end Go.Proofs

/-
 POLYLINE: simple, CheckPoint, Check. Own work.
-/
namespace Go.Proofs
open Go Go.Pi Go.RowKit Go.Ar Go.Ge

set_option maxHeartbeats 4000000 in
theorem Tryz.pnumbers (x y : Rat) (hx : rd x ≤ 200) (hy : rd y ≤ 200) : Con Tryz.prog Tryz.L 84 [.sl 2 [.str (rt x), .str (rt y)]] (.int .i64 0) := by
 refine rule84 Tryz.hL rfl rfl rfl ?_
 (simp only [pc84, rs84, oU, oC]; refine ev ?_; try exact ⟨⟩)
 refine loopF_of (fun E => ∃ k : Nat, k ≤ 2 ∧ E = [(6, .sl 2 [.str (rt x), .str (rt y)]), (7, .int .i64 2), (8, .int .i64 k)])
  (fun E => match lk E 8 with | .int _ i => 2 - i.toNat | _ => 0) ⟨0, by omega, rfl⟩ ?_
 rintro _ ⟨k, hk, rfl⟩
 obtain rfl | rfl | rfl : k = 0 ∨ k = 1 ∨ k = 2 := by omega
 ·(refine ev ?_; try exact ⟨⟩)
  refine fun _ => ⟨⟨by decide, by decide⟩, ?_⟩
  refine callF_of (Tryz.rcheckQ x hx) ?_
  (refine ev ?_; try exact ⟨⟩)
  refine ⟨⟨by decide, by decide⟩, ⟨1, by omega, rfl⟩, by decide⟩
 ·(refine ev ?_; try exact ⟨⟩)
  refine fun _ => ⟨⟨by decide, by decide⟩, ?_⟩
  refine callF_of (Tryz.rcheckQ y hy) ?_
  (refine ev ?_; try exact ⟨⟩)
  refine ⟨⟨by decide, by decide⟩, ⟨2, by omega, rfl⟩, by decide⟩
 ·(refine ev ?_; try exact ⟨⟩)
  exact fun h => absurd h (by decide)
theorem Tryz.ppoint (p : Pt) (h : Sz 200 p) : Con Tryz.prog Tryz.L 49 [ptD p] (.int .i64 0) := by
 refine rule49 Tryz.hL rfl rfl rfl ?_
 (try simp only [ptD, pc49, rs49, oU, oC]; refine ev ?_; try exact ⟨⟩)
 refine callF_of (Tryz.pnumbers p.1 p.2 h.1 h.2) ?_
 (refine ev ?_; try exact ⟨⟩)
set_option maxHeartbeats 4000000 in
theorem Tryz.psimple (c : List Pt) (sg : Nat) (hlen : c.length ≤ 400) (hs : sg ≤ c.length) (hsz : ∀ p ∈ c, Sz 30 p) : Con Tryz.prog Tryz.L 80 [chn c, .int .i64 sg] (.int .i64 (if crs c sg = true then 26 else 0)) := by
 refine rule80 Tryz.hL rfl rfl rfl ?_
 (simp only [pc80, rs80, oU, oC]; refine ev ?_; try exact ⟨⟩)
 refine loopF_of (fun E => ∃ i : Nat, i ≤ sg ∧ (∀ i' k', i' < i → i' < k' → k' < sg → ¬crossP (gt c) c.length sg i' k') ∧ E = [(0, chn c), (1, .int .i64 sg), (7, .int .i64 sg), (8, .int .i64 i)])
  (fun E => match lk E 8 with | .int _ i => sg - i.toNat | _ => 0) ⟨0, by omega, fun _ _ h => absurd h (by omega), rfl⟩ ?_
 rintro _ ⟨i, hi, hno, rfl⟩
 (refine ev ?_; try exact ⟨⟩)
 refine ⟨fun h1 => ?_, fun h1 => ?_⟩
 ·refine ⟨⟨by omega, by omega⟩, ?_⟩
  refine loopF_of (fun E => ∃ k : Nat, i < k ∧ k ≤ sg ∧ (∀ k', i < k' → k' < k → ¬crossP (gt c) c.length sg i k') ∧ E = [(0, chn c), (1, .int .i64 sg), (5, .int .i64 i), (6, .int .i64 k), (7, .int .i64 sg), (8, .int .i64 i)])
   (fun E => match lk E 6 with | .int _ i => sg - i.toNat | _ => 0) ⟨i + 1, by omega, by omega, fun k' h2 h3 => absurd h3 (by omega), rfl⟩ ?_
  rintro _ ⟨k, hik, hk, hno2, rfl⟩
  (refine ev ?_; try exact ⟨⟩)
  refine ⟨fun h2 => ?_, fun h2 => ?_⟩
  ·refine callF_of (Tryz.pcrossed c sg i k hlen hs hik (by omega) hsz) ?_
   (refine ev ?_; try exact ⟨⟩)
   cases hb : crB c sg i k with
   | true =>
     (refine ev ?_; try exact ⟨⟩)
     rw [if_pos (crs_iff.2 ⟨i, k, hik, by omega, (crB_iff c sg i k).1 hb⟩)]
   | false =>
     (refine ev ?_; try exact ⟨⟩)
     refine ⟨⟨by omega, by omega⟩, ⟨k + 1, by omega, by omega, fun k' h3 h4 => ?_, rfl⟩, by omega⟩
     by_cases e : k' = k
     ·rw [e]; intro h5; rw [(crB_iff c sg i k).2 h5] at hb; cases hb
     ·exact hno2 k' h3 (by omega)
  ·refine ⟨⟨by omega, by omega⟩, ⟨i + 1, by omega, fun i' k' h3 h4 h5 => ?_, rfl⟩, by omega⟩
   by_cases e : i' = i
   ·rw [e] at h4 ⊢; exact hno2 k' h4 (by omega)
   ·exact hno i' k' (by omega) h4 h5
 ·rw [if_neg (fun h => by obtain ⟨i', k', h3, h4, h5⟩ := crs_iff.1 h; exact hno i' k' (by omega) h3 h4 h5)]
set_option maxHeartbeats 4000000 in
theorem Tryz.pcheckL (c : List Pt) (hlen : c.length ≤ 1000) (hsz : ∀ p ∈ c, Sz 30 p) : Con Tryz.prog Tryz.L 42 [chn c] (.int .i64 (chkN c false)) := by
 refine rule42 Tryz.hL rfl rfl rfl ?_
 (simp only [pc42, rs42, oU, oC]; refine ev ?_; try exact ⟨⟩)
 have hg : ∀ j, j < c.length → c[j]? = some (gt c j) := fun j hj => by
  rw [List.getElem?_eq_getElem hj]; simp [gt, List.getD_eq_getElem?_getD, hj]
 have hsg : segs c false = c.length - 1 := rfl
 unfold chkN
 rw [hsg]
 simp only [Bool.false_eq_true, if_false]
 refine ⟨fun h => by rw [if_pos (by omega)], fun h => ⟨fun h2 => by rw [if_neg (by omega), if_pos (by omega)], fun h2 => ?_⟩⟩
 rw [if_neg (by omega), if_neg (by omega)]
 refine loopF_of (fun E => ∃ i : Nat, i ≤ c.length ∧ (∀ j, j + 1 < i → gt c j ≠ gt c (j + 1)) ∧ E = [(0, chn c), (13, chn c), (14, .int .i64 c.length), (15, .int .i64 i)])
  (fun E => match lk E 15 with | .int _ i => c.length - i.toNat | _ => 0) ⟨0, by omega, fun _ h => absurd h (by omega), rfl⟩ ?_
 rintro _ ⟨i, hi, hno, rfl⟩
 (refine ev ?_; repeat (simp only [ldC_pts]; try refine ev ?_); try exact ⟨⟩)
 refine ⟨fun h1 => ?_, fun h1 => ?_⟩
 ·refine ⟨⟨by omega, by omega, by rw [pts_len]; omega⟩, _, hg i (by omega), ?_⟩
  have hz : Sz 200 (gt c i) := (hsz _ (List.mem_of_getElem? (hg i (by omega)))).more (by decide)
  have hcp := Tryz.ppoint (gt c i) hz
  generalize hx : gt c i = x at *
  (try simp only [pD]; refine ev ?_; try exact ⟨⟩)
  refine callF_of hcp ?_
  (refine ev ?_; repeat (simp only [ldC_pts]; try refine ev ?_); try exact ⟨⟩)
  refine ⟨fun h3 => ?_, fun h3 => ⟨⟨by omega, by omega⟩, ⟨i + 1, by omega, fun j hj => absurd hj (by omega), by simp⟩, by omega⟩⟩
  have e1 : ((i : Int) - 1).toNat = i - 1 := by omega
  refine ⟨⟨by omega, by omega⟩, ⟨by omega, by omega, by rw [pts_len]; omega⟩, gt c (i - 1), by rw [e1]; exact hg _ (by omega), eqOk_pt _ x, fun h4 => ?_, fun h4 => ⟨⟨by omega, by omega⟩, ⟨i + 1, by omega, fun j hj => ?_, by simp⟩, by omega⟩⟩
  ·have h5 := (eq_pt (gt c (i - 1)) x).1 h4
   rw [if_pos (dbl_iff.2 ⟨i - 1, by omega, by rw [show (i - 1 + 1) % c.length = i by rw [Nat.mod_eq_of_lt (by omega)]; omega, hx]; exact h5⟩)]
  ·by_cases e : j + 1 = i
   ·intro h5
    have e2 : j = i - 1 := by omega
    rw [e, hx, e2] at h5
    exact h4 ((eq_pt _ x).2 h5)
   ·exact hno j (by omega)
 ·have e : i = c.length := by omega
  subst e
  have hnd : ¬dbl c (c.length - 1) = true := fun h3 => by
   obtain ⟨j, h4, h5⟩ := dbl_iff.1 h3
   rw [Nat.mod_eq_of_lt (by omega)] at h5
   exact hno j (by omega) h5
  rw [if_neg hnd]
  have e1 : (c.length : Int) - 1 = ((c.length - 1 : Nat) : Int) := by omega
  rw [e1]
  refine ⟨⟨by omega, by omega⟩, ?_⟩
  refine callF_of (Tryz.psimple c (c.length - 1) (by omega) (by omega) hsz) ?_
  (refine ev ?_; try exact ⟨⟩)
theorem Tryz.cuClone : ∀ c, Tryz.f51.body = some c → ∀ q ∈ cusL c pc51, CusOk Tryz.prog Tryz.L q.1 q.2.1 q.2.2 := by
 intro c hc q hq
 cases Option.some.inj hc
 simp only [pc51, cusL, List.nil_append, List.append_nil, List.mem_singleton, List.cons_append] at hq
 subst hq
 exact nilT_ok rfl rfl rfl rfl rfl rfl rfl Tryz.underlying24 (by decide) (by decide) (by decide)
theorem Tryz.pclone (l : List Pt) (hl : l.length ≤ 1000) : Con Tryz.prog Tryz.L 51 [chn l] (.own true 35 l.length (pts l)) := by
 refine rule51 Tryz.hL (fun q hq => by simp [PC.backs, pc51] at hq) Tryz.cuClone rfl rfl rfl ?_
 (try simp only [pc51, rs51, oU, oC, nilT_f]; refine ev ?_; try exact ⟨⟩)
 refine ⟨l.length, pts l, rfl, fun b hb0 => ?_⟩
 cases b
 ·(refine ev ?_; try exact ⟨⟩)
  exact ⟨pts_len _, by omega, by omega⟩
 ·have : l = [] := List.eq_nil_of_length_eq_zero (hb0 rfl)
  subst this
  (refine ev ?_; try exact ⟨⟩)
  rfl
end Go.Proofs

/-
 POLYLINE: Simplify, in the plain walk. Own work.
-/
namespace Go.Proofs
open Go Go.Pi Go.RowKit Go.Shelf Go.Ar Go.Ge

/-- at and least, as the program holds them -/
def atV : Option (Nat × Rat) → Value
 | none => .int .i64 (-1)
 | some q => .int .i64 q.1
def leV (most : Rat) : Option (Nat × Rat) → Value
 | none => .string ⟨(rt most).toArray⟩
 | some q => .string ⟨(rt q.2).toArray⟩

theorem st_cases (st : Option (Nat × Rat)) : (st = none ∧ atV st = .int .i64 (-1)) ∨ (st ≠ none ∧ ∃ j : Nat, atV st = .int .i64 (j : Int)) := by
 cases st with
 | none => exact .inl ⟨rfl, rfl⟩
 | some z => exact .inr ⟨by simp, z.1, rfl⟩
theorem st_cases2 (st : Option (Nat × Rat)) : (st = none ∧ atV st = .int .i64 (-1)) ∨ (∃ (j : Nat) (y : Rat), st = some (j, y) ∧ atV st = .int .i64 (j : Int)) := by
 cases st with
 | none => exact .inl ⟨rfl, rfl⟩
 | some z => exact .inr ⟨z.1, z.2, rfl, rfl⟩
theorem simp_none {q : Rat} {l : List Pt} {k : Nat} (hk : k + 2 = l.length) (h : pick q l k = none) : simp q l.length l = l := by
 obtain ⟨f, hf⟩ : ∃ f, l.length = f + 1 := ⟨k + 1, by omega⟩
 have e : l.length - 2 = k := by omega
 rw [hf, simp, e, h]
theorem simp_some {q : Rat} {l : List Pt} {k j : Nat} {y : Rat} (hk : k + 2 = l.length) (h : pick q l k = some (j, y)) : simp q l.length l = simp q (l.eraseIdx j).length (l.eraseIdx j) := by
 obtain ⟨f, hf⟩ : ∃ f, l.length = f + 1 := ⟨k + 1, by omega⟩
 have e : l.length - 2 = k := by omega
 obtain ⟨h1, h2, _⟩ := pick_spec h
 have e2 : (l.eraseIdx j).length = f := by rw [List.length_eraseIdx_of_lt (by omega)]; omega
 conv => lhs; rw [hf, simp, e, h]
 rw [e2]
theorem rat_tri (a b : Rat) : a < b ∨ a = b ∨ b < a := by grind
/-- the least so far -/
def lvQ (most : Rat) : Option (Nat × Rat) → Rat
 | none => most
 | some q => q.2
theorem rd_abQ (q : Rat) : rd (abQ q) = rd q := rd_abs q
theorem lv_rd {q : Rat} {l : List Pt} (hq : rd q ≤ 2500) (hs : ∀ p ∈ l, Sz 30 p) : ∀ {k : Nat}, k + 2 ≤ l.length → rd (lvQ q (pick q l k)) ≤ 2500
 | 0, _ => hq
 | k + 1, hk => by
   have ih := lv_rd hq hs (k := k) (by omega)
   have hz : ∀ j, j < l.length → Sz 300 (gt l j) := fun j hj => (hs _ (List.mem_of_getElem? (show l[j]? = some (gt l j) by rw [List.getElem?_eq_getElem hj]; simp [gt, List.getD_eq_getElem?_getD, hj]))).more (by decide)
   have h1 : rd (abQ (ar (gt l k) (gt l (k + 1)) (gt l (k + 2)))) ≤ 2500 := by rw [rd_abQ]; exact rd_ar (hz _ (by omega)) (hz _ (by omega)) (hz _ (by omega))
   unfold pick
   cases hp : pick q l k with
   | none =>
     rw [hp] at ih
     simp only
     split
     ·exact h1
     ·exact ih
   | some z =>
     rw [hp] at ih
     obtain ⟨j, y⟩ := z
     simp only
     split
     ·exact h1
     ·exact ih
/-- one point more -/
theorem pick_succ (q : Rat) (l : List Pt) (k : Nat) : pick q l (k + 1) = if (abQ (ar (gt l k) (gt l (k + 1)) (gt l (k + 2))) < lvQ q (pick q l k) ∨ (abQ (ar (gt l k) (gt l (k + 1)) (gt l (k + 2))) = lvQ q (pick q l k) ∧ pick q l k = none)) ∧ good (l.eraseIdx (k + 1)) = true then some (k + 1, abQ (ar (gt l k) (gt l (k + 1)) (gt l (k + 2)))) else pick q l k := by
 conv => lhs; unfold pick
 generalize abQ (ar (gt l k) (gt l (k + 1)) (gt l (k + 2))) = x
 cases hp : pick q l k with
 | none =>
   simp only [lvQ, and_true]
   by_cases h : x ≤ q
   ·have : x < q ∨ x = q := Rat.le_iff_lt_or_eq.1 h
    simp [h, this]
   ·have : ¬(x < q ∨ x = q) := fun h' => h (Rat.le_iff_lt_or_eq.2 h')
    simp [h, this]
 | some z =>
   obtain ⟨j, y⟩ := z
   simp [lvQ]
set_option maxRecDepth 100000 in
set_option maxHeartbeats 4000000 in
theorem Tryz.psimplify (c : List Pt) (q : Rat) (hc : c.length ≤ 8) (hsz : ∀ p ∈ c, Sz 30 p) (hq : rd q ≤ 100) (h0 : 0 ≤ q) (hg : good c = true) : Con Tryz.prog Tryz.L 16 [chn c, .str (rt q)] (.tup [chn (simp q c.length c), .int .i64 0]) := by
 have mixed : Tryz.prog.follows .mixedOrders = true := by kernel_rfl
 have t0 := Tryz.underlying24; have a0 := Tryz.isAgg24; have z0 := Tryz.sizeOf24; have v0 := Tryz.zeroValue24; have u0 := run_underlying Tryz.underlying24
 have t1 := Tryz.underlying35; have a1 := Tryz.isAgg35; have z1 := Tryz.sizeOf35; have v1 := Tryz.zeroValue35; have u1 := run_underlying Tryz.underlying35
 have t3 := Tryz.underlying4; have a3 := Tryz.isAgg4; have z3 := Tryz.sizeOf4; have v3 := Tryz.zeroValue4; have u3 := run_underlying Tryz.underlying4
 have t4 := Tryz.underlying3; have a4 := Tryz.isAgg3; have z4 := Tryz.sizeOf3; have v4 := Tryz.zeroValue3; have u4 := run_underlying Tryz.underlying3
 have t5 := Tryz.underlying26; have a5 := Tryz.isAgg26; have z5 := Tryz.sizeOf26; have v5 := Tryz.zeroValue26; have u5 := run_underlying Tryz.underlying26
 have t6 := Tryz.underlying33; have a6 := Tryz.isAgg33; have z6 := Tryz.sizeOf33; have v6 := Tryz.zeroValue33; have u6 := run_underlying Tryz.underlying33
 have hlq := rt_len q
 refine ⟨⟨by kernel_rfl, rfl⟩, fun S W vs hS hL hrep => ?_⟩
 obtain ⟨vc, r1, rfl, hrc, t1'⟩ := hrep.uncons
 obtain ⟨vq, r2, rfl, hrq, t2'⟩ := t1'.uncons
 have e2 := hrq.str_inv.1
 subst e2
 obtain rfl : r2 = [] := List.length_eq_zero_iff.1 t2'.1.symm
 clear t1' t2' hrep
 have hgood : chkN c false = 0 := by simpa [good] using hg
 have hC0 := (Tryz.pcheckL c (by omega) hsz).2 S W [vc] hS hL (Reps.cons hrc .nil)
 rw [hgood] at hC0
 show Calls _ _ #[vc, .string ⟨(rt q).toArray⟩] _ _
 go_enter Tryz.func16, Tryz.ntmps16
 go_wp2_with (go_at_call 42; refine Calls.mono hC0 ?_; rintro e W1 ⟨v1, rfl, hb1, hr1⟩; obtain rfl : v1 = .int .i64 0 := (by cases hr1; rfl); clear hr1)
 have b01 := hb1
 refine Calls.mono ((Tryz.rcheckQ q (by omega)).2 (fun _ _ => False) W1 [.string ⟨(rt q).toArray⟩] (fun _ _ h => h.elim) (Tryz.hL W W1 hL b01) (Reps.cons (.str _ (by unfold maxLen; omega)) .nil)) ?_
 rintro e W2 ⟨v2, rfl, hb2, hr2⟩
 obtain rfl : v2 = .int .i64 0 := (by cases hr2; rfl)
 clear hr2
 have b02 := b01.trans (hb2.mono b01.size)
 have hnn : ¬q.num < 0 := by have := Rat.num_nonneg.2 h0; omega
 have hsg : decide (q.num < 0) = false := decide_eq_false hnn
 go_wp2_with (go_at_call 18; refine Calls.mono ((Tryz.rsign q (by omega)).2 (fun _ _ => False) W2 [.string ⟨(rt q).toArray⟩] (fun _ _ h => h.elim) (Tryz.hL W W2 hL b02) (Reps.cons (.str _ (by unfold maxLen; omega)) .nil)) ?_; rintro e W3 ⟨v3, rfl, hb3, hr3⟩; obtain rfl : v3 = .int .i64 q.num.sign := (by cases hr3; rfl); clear hr3; have b03 := b02.trans (hb3.mono b02.size))
 have hm3 : ∀ W' : World, Below W.heap.size W W' → Rep S W' (chn c) vc := fun W' h => hrc.mono (fun _ _ z => z) (fun b o z => h.cell (p := ⟨b, o, none⟩) (hS b o z))
 refine Calls.mono ((Tryz.pclone c (by omega)).2 S W3 [vc] (fun b j h => Nat.lt_of_lt_of_le (hS b j h) b03.size) (Tryz.hL W W3 hL b03) (Reps.cons (hm3 W3 b03) .nil)) ?_
 rintro e W4 ⟨v4, rfl, hb4, hr4⟩
 have b04 := b03.trans (hb4.mono b03.size)
 have ho4 := own_base (own_of_res (f := fun p : Pt => rt p.1) (g := fun p : Pt => rt p.2) (by kernel_rfl) hr4) b03.size
 clear hr4 hC0 hb1 hb2 hb3 hb4 b01 b02 b03 hm3 hrc hgood hsg hnn
 go_wp2
 have HS : Hid (∀ p ∈ c, Sz 30 p) := hsz
 have HG : Hid (good c = true) := hg
 clear hsz hg
 go_loopg [7] c.length (fun gg s7 wr => ∃ l : List Pt, l.length ≤ gg ∧ l.length ≤ 8 ∧ Hid ((∀ p ∈ l, Sz 30 p) ∧ good l = true ∧ simp q l.length l = simp q c.length c) ∧ wr.ownsRow W.heap.size 35 2 s7 l.length (pce l) ∧ Below W.heap.size W wr)
 case atStart => exact ⟨c, Nat.le_refl _, hc, ⟨HS.out, HG.out, rfl⟩, ho4, b04⟩
 case round =>
  clear ho4 b04 HS HG
  obtain ⟨l, hlg, hl8, HF, hown, hbw⟩ := hrel
  have hl2 : 2 ≤ l.length := by
   have := HF.out.2.1
   unfold good chkN at this
   rw [decide_eq_true_eq] at this
   by_cases h : l.length < 2
   ·rw [if_pos (by simpa using h)] at this; exact absurd this (by decide)
   ·omega
  obtain ⟨g, cap, rfl, hg1, hg2⟩ := hown.form (by omega)
  go_wp2
  go_loopg [8, 9, 10] l.length (fun g2 s8 s9 s10 wr2 => ∃ k : Nat, s10 = .int .i64 ((k + 1 : Nat) : Int) ∧ k + 2 ≤ l.length ∧ l.length ≤ g2 + k + 2 ∧ s8 = atV (pick q l k) ∧ s9 = leV q (pick q l k) ∧ wr2.ownsRow W.heap.size 35 2 (.slice (some ⟨g, 0, none⟩) l.length cap) l.length (pce l) ∧ Below W.heap.size W wr2)
  case atStart => exact ⟨0, rfl, by omega, by omega, rfl, rfl, hown, hbw⟩
  case round =>
   clear hown hbw
   obtain ⟨k, rfl, hk, hgk, rfl, rfl, hwn, hbn⟩ := hrel
   have hlv : rd (lvQ q (pick q l k)) ≤ 2500 := lv_rd (by omega) HF.out.1 (by omega)
   have hle : leV q (pick q l k) = .string ⟨(rt (lvQ q (pick q l k))).toArray⟩ := by cases pick q l k <;> rfl
   rw [hle]
   by_cases hlt : k + 2 < l.length
   ·have hx : ∀ j, j < l.length → l[j]? = some (gt l j) := fun j hj => by rw [List.getElem?_eq_getElem hj]; simp [gt, List.getD_eq_getElem?_getD, hj]
    have hz : ∀ j, j < l.length → Sz 300 (gt l j) := fun j hj => (HF.out.1 _ (List.mem_of_getElem? (hx j hj))).more (by decide)
    obtain ⟨ca, ca'⟩ := cel2_at (fun p : Pt => rt p.1) (fun p : Pt => rt p.2) (hx k (by omega))
    obtain ⟨cb, cb'⟩ := cel2_at (fun p : Pt => rt p.1) (fun p : Pt => rt p.2) (hx (k + 1) (by omega))
    obtain ⟨cc, cc'⟩ := cel2_at (fun p : Pt => rt p.1) (fun p : Pt => rt p.2) (hx (k + 2) (by omega))
    have za := hz k (by omega)
    have zb := hz (k + 1) (by omega)
    have zc := hz (k + 2) (by omega)
    have hxa := rd_ar za zb zc
    have hpk := pick_succ q l k
    clear hx hz
    generalize gt l k = A at *
    generalize gt l (k + 1) = B at *
    generalize gt l (k + 2) = C at *
    rw [← hwn.drew.cellAt (k * 2) (by omega)] at ca
    rw [← hwn.drew.cellAt (k * 2 + 1) (by omega)] at ca'
    rw [← hwn.drew.cellAt ((k + 1) * 2) (by omega)] at cb
    rw [← hwn.drew.cellAt ((k + 1) * 2 + 1) (by omega)] at cb'
    rw [← hwn.drew.cellAt ((k + 2) * 2) (by omega)] at cc
    rw [← hwn.drew.cellAt ((k + 2) * 2 + 1) (by omega)] at cc'
    have i0 : (0 : Int) ≤ (k : Int) := Int.natCast_nonneg _
    have i1 : (k : Int) < (l.length : Int) := by omega
    have i2 : (k : Int) + 1 < (l.length : Int) := by omega
    have i3 : (k : Int) + 1 + 1 < (l.length : Int) := by omega
    have i4 : (0 : Int) ≤ (k : Int) + 1 := by omega
    have i5 : (0 : Int) ≤ (k : Int) + 1 + 1 := by omega
    have i6 : ((k : Int) + 1).toNat = k + 1 := by omega
    have i7 : ((k : Int) + 1 + 1).toNat = k + 2 := by omega
    have w1 : IntKind.i64.wrap (k : Int) = (k : Int) := by rw [IntKind.wrap_i64]; omega
    have w2 : IntKind.i64.wrap ((k : Int) + 1 + 1) = (k : Int) + 1 + 1 := by rw [IntKind.wrap_i64]; omega
    have w3 : IntKind.i64.wrap ((k : Int) + 1 - 1) = (k : Int) := by rw [IntKind.wrap_i64]; omega
    have e0 : (k : Int) + 1 - 1 = (k : Int) := by omega
    go_wp2_with fail
    have hbd : Below W.heap.size W wr.drew := hbn.grown (gr_drew (gr_self wr (r := none))) hbn.size (fun k hk => by cases hk)
    have hwd := hwn.drew
    have hla := rt_len A.1; have hla' := rt_len A.2; have hlb := rt_len B.1; have hlb' := rt_len B.2; have hlc := rt_len C.1; have hlc' := rt_len C.2
    obtain ⟨za1, za2⟩ := za; obtain ⟨zb1, zb2⟩ := zb; obtain ⟨zc1, zc2⟩ := zc
    have hA := (Tryz.parea A B C ⟨za1, za2⟩ ⟨zb1, zb2⟩ ⟨zc1, zc2⟩).2 (fun _ _ => False) wr.drew [.agg #[.string ⟨(rt A.1).toArray⟩, .string ⟨(rt A.2).toArray⟩], .agg #[.string ⟨(rt B.1).toArray⟩, .string ⟨(rt B.2).toArray⟩], .agg #[.string ⟨(rt C.1).toArray⟩, .string ⟨(rt C.2).toArray⟩]] (fun _ _ h => h.elim) (Tryz.hL W _ hL hbd)
     (Reps.cons (rep_pair _ _ _ _ (by unfold maxLen; omega) (by unfold maxLen; omega)) (Reps.cons (rep_pair _ _ _ _ (by unfold maxLen; omega) (by unfold maxLen; omega)) (Reps.cons (rep_pair _ _ _ _ (by unfold maxLen; omega) (by unfold maxLen; omega)) .nil)))
    generalize ar A B C = z at *
    have hlz := rt_len z
    have HD : Hid (wr.drew.ownsRow W.heap.size 35 2 (.slice (some ⟨g, 0, none⟩) l.length cap) l.length (pce l) ∧ Below W.heap.size W wr.drew) := ⟨hwd, hbd⟩
    clear hla hla' hlb hlb' hlc hlc' za1 za2 zb1 zb2 zc1 zc2 hwn hbn hwd hbd
    go_region_held3 (fun w' => w'.cell? ⟨g, k * 2, none⟩ = some (.string ⟨(rt A.1).toArray⟩) ∧ w'.cell? ⟨g, k * 2 + 1, none⟩ = some (.string ⟨(rt A.2).toArray⟩) ∧ w'.cell? ⟨g, (k + 1) * 2, none⟩ = some (.string ⟨(rt B.1).toArray⟩) ∧ w'.cell? ⟨g, (k + 1) * 2 + 1, none⟩ = some (.string ⟨(rt B.2).toArray⟩) ∧ w'.cell? ⟨g, (k + 2) * 2, none⟩ = some (.string ⟨(rt C.1).toArray⟩) ∧ w'.cell? ⟨g, (k + 2) * 2 + 1, none⟩ = some (.string ⟨(rt C.2).toArray⟩)) (go_keep)
     (first
      | (go_at_call 52; refine Calls.mono hA ?_; rintro e W5 ⟨v5, rfl, hb5, hr5⟩; obtain rfl : v5 = .string ⟨(rt z).toArray⟩ := (by cases hr5; rfl); clear hr5; have b5 := HD.out.2.trans (hb5.mono HD.out.2.size); have o5 := HD.out.1.kept (gr_below (r := none) hb5) (.inr (by simp [Value.ownBlock])); have hgl := (HD.out.1.lt g rfl).2; have d1 := (hb5.cell (p := ⟨g, k * 2, none⟩) hgl).trans ca; have d2 := (hb5.cell (p := ⟨g, k * 2 + 1, none⟩) hgl).trans ca'; have d3 := (hb5.cell (p := ⟨g, (k + 1) * 2, none⟩) hgl).trans cb; have d4 := (hb5.cell (p := ⟨g, (k + 1) * 2 + 1, none⟩) hgl).trans cb'; have d5 := (hb5.cell (p := ⟨g, (k + 2) * 2, none⟩) hgl).trans cc; have d6 := (hb5.cell (p := ⟨g, (k + 2) * 2 + 1, none⟩) hgl).trans cc'; clear hb5 hgl)
      | (go_at_call 19; refine Calls.mono ((Tryz.rabs z (by omega)).2 (fun _ _ => False) _ [.string ⟨(rt z).toArray⟩] (fun _ _ h => h.elim) (Tryz.hL W _ hL b5) (Reps.cons (.str _ (by unfold maxLen; omega)) .nil)) ?_; rintro e W6 ⟨v6, rfl, hb6, hr6⟩; obtain rfl : v6 = .string ⟨(rt (absQ z)).toArray⟩ := (by cases hr6; rfl); clear hr6; have b6 := b5.trans (hb6.mono b5.size); have o6 := o5.kept (gr_below (r := none) hb6) (.inr (by simp [Value.ownBlock])); have hgm := (o5.lt g rfl).2; have f1 := (hb6.cell (p := ⟨g, k * 2, none⟩) hgm).trans d1; have f2 := (hb6.cell (p := ⟨g, k * 2 + 1, none⟩) hgm).trans d2; have f3 := (hb6.cell (p := ⟨g, (k + 1) * 2, none⟩) hgm).trans d3; have f4 := (hb6.cell (p := ⟨g, (k + 1) * 2 + 1, none⟩) hgm).trans d4; have f5 := (hb6.cell (p := ⟨g, (k + 2) * 2, none⟩) hgm).trans d5; have f6 := (hb6.cell (p := ⟨g, (k + 2) * 2 + 1, none⟩) hgm).trans d6; clear hb6 hgm))
    have hla : rd (absQ z) ≤ 2500 := by rw [rd_abs]; omega
    have hC7 := (Tryz.rcompare (absQ z) (lvQ q (pick q l k)) (by omega) (by omega)).2 (fun _ _ => False) W6 [.string ⟨(rt (absQ z)).toArray⟩, .string ⟨(rt (lvQ q (pick q l k))).toArray⟩] (fun _ _ h => h.elim) (Tryz.hL W _ hL b6) (Reps.cons (.str _ (by have := rt_len (absQ z); unfold maxLen; omega)) (Reps.cons (.str _ (by have := rt_len (lvQ q (pick q l k)); unfold maxLen; omega)) .nil))
    rw [show abQ z = absQ z from rfl] at hpk
    have HB : Hid (∀ m : List Pt, (∀ p ∈ m, p ∈ l) → ∀ y ∈ m, (rt y.1).length ≤ maxLen ∧ (rt y.2).length ≤ maxLen) := fun m hm y hy => by
     obtain ⟨h1, h2⟩ := HF.out.1 y (hm y hy)
     have l1 := rt_len y.1; have l2 := rt_len y.2
     exact ⟨by unfold maxLen; omega, by unfold maxLen; omega⟩
    generalize hst : pick q l k = st at *
    have HPK : Hid (pick q l (k + 1) = if (absQ z < lvQ q st ∨ absQ z = lvQ q st ∧ st = none) ∧ good (l.eraseIdx (k + 1)) = true then some (k + 1, absQ z) else st) := hpk
    clear hpk f1 f2 f3 f4 f5 f6 d1 d2 d3 d4 d5 d6 ca ca' cb cb' cc cc' hA b5 o5 HD hst hlz hxa
    rcases rat_tri (absQ z) (lvQ q st) with hc | hc | hc
    ·have ec : cmpQ (absQ z) (lvQ q st) = -1 := by unfold cmpQ; rw [if_pos hc]
     rw [ec] at hC7
     go_wp2_with (go_at_call 21; refine Calls.mono hC7 ?_; rintro e W7 ⟨v7, rfl, hb7, hr7⟩; obtain rfl : v7 = .int .i64 (-1) := (by cases hr7; rfl); clear hr7; have b7 := b6.trans (hb7.mono b6.size); have o7 := o6.kept (gr_below (r := none) hb7) (.inr (by simp [Value.ownBlock])); clear hb7)
     refine Calls.mono ((Tryz.pclone l (by omega)).2 (fun b _ => b < W7.heap.size) W7 [.slice (some ⟨g, 0, none⟩) l.length cap] (fun _ _ h => h) (Tryz.hL W _ hL b7) (Reps.cons (rep_own2 o7 (HB.out l (fun _ h => h)) (fun _ _ _ h => h)) .nil)) ?_
     rintro e W8 ⟨v8, rfl, hb8, hr8⟩
     have o8 := own_of_res (f := fun p : Pt => rt p.1) (g := fun p : Pt => rt p.2) (by kernel_rfl) hr8
     have hdel := Tryz.pdelete W7 W8 v8 l (k + 1) (Tryz.hL W _ hL b7) hb8 o8 (by omega) (by omega)
     rw [show ((k + 1 : Nat) : Int) = (k : Int) + 1 by omega, show ((k + 1 + 1 : Nat) : Int) = (k : Int) + 1 + 1 by omega] at hdel
     clear hr8
     go_wp2_with (go_at_call 53; refine Calls.mono hdel ?_; rintro e W9 ⟨v9, rfl, o9, hg9, hb9⟩; have b9 := b7.trans (hb9.mono b7.size))
     refine Calls.mono ((Tryz.pcheckL (l.eraseIdx (k + 1)) (by have := List.length_eraseIdx_le l (k + 1); omega) (fun p hp => HF.out.1 p (List.mem_of_mem_eraseIdx hp))).2 (fun b _ => b < W9.heap.size) W9 [v9] (fun _ _ h => h) (Tryz.hL W _ hL b9) (Reps.cons (rep_own2 o9 (HB.out _ (fun _ h => List.mem_of_mem_eraseIdx h)) (fun _ _ _ h => h)) .nil)) ?_
     rintro e W10 ⟨v10, rfl, hb10, hr10⟩
     obtain rfl : v10 = .int .i64 (chkN (l.eraseIdx (k + 1)) false) := (by cases hr10; rfl)
     have b10 := b9.trans (hb10.mono b9.size)
     have o10 := o7.kept (gr_below (r := none) (hb9.trans (hb10.mono hb9.size))) (.inr (by simp [Value.ownBlock]))
     clear hr10 hb10 hb9 hg9 hb8 o8 o9 hdel
     cases hgd : good (l.eraseIdx (k + 1)) with
     | true =>
       have hn : chkN (l.eraseIdx (k + 1)) false = 0 := by unfold good at hgd; exact of_decide_eq_true hgd
       rw [hn]
       go_wp2
       go_roundg (l.length - (k + 3))
       case measure => omega
       case rel =>
        have hp1 : pick q l (k + 1) = some (k + 1, absQ z) := by rw [HPK.out, if_pos ⟨.inl hc, hgd⟩]
        exact ⟨k + 1, by go_num, by omega, by omega, by rw [hp1]; simp [atV], by rw [hp1]; rfl, o10, b10⟩
     | false =>
       have hn : ¬chkN (l.eraseIdx (k + 1)) false = 0 := fun h => by unfold good at hgd; rw [h] at hgd; cases hgd
       generalize chkN (l.eraseIdx (k + 1)) false = n at hn ⊢
       go_wp2
       go_roundg (l.length - (k + 3))
       case measure => omega
       case rel =>
        have hp1 : pick q l (k + 1) = st := by rw [HPK.out, if_neg (fun h => by rw [hgd] at h; cases h.2)]
        exact ⟨k + 1, by go_num, by omega, by omega, by rw [hp1], by rw [hp1]; exact hle.symm, o10, b10⟩
    ·have ec : cmpQ (absQ z) (lvQ q st) = 0 := by rw [hc]; exact cmpQ_self _
     rw [ec] at hC7
     have HC : Hid (absQ z = lvQ q st) := hc
     clear hc
     rcases st_cases st with ⟨hs0, hat⟩ | ⟨hs0, j, hat⟩
     ·rw [hat]
      have HS0 : Hid (st = none) := hs0
      clear hs0
      go_wp2_with (go_at_call 21; refine Calls.mono hC7 ?_; rintro e W7 ⟨v7, rfl, hb7, hr7⟩; obtain rfl : v7 = .int .i64 (0) := (by cases hr7; rfl); clear hr7; have b7 := b6.trans (hb7.mono b6.size); have o7 := o6.kept (gr_below (r := none) hb7) (.inr (by simp [Value.ownBlock])); clear hb7)
      refine Calls.mono ((Tryz.pclone l (by omega)).2 (fun b _ => b < W7.heap.size) W7 [.slice (some ⟨g, 0, none⟩) l.length cap] (fun _ _ h => h) (Tryz.hL W _ hL b7) (Reps.cons (rep_own2 o7 (HB.out l (fun _ h => h)) (fun _ _ _ h => h)) .nil)) ?_
      rintro e W8 ⟨v8, rfl, hb8, hr8⟩
      have o8 := own_of_res (f := fun p : Pt => rt p.1) (g := fun p : Pt => rt p.2) (by kernel_rfl) hr8
      have hdel := Tryz.pdelete W7 W8 v8 l (k + 1) (Tryz.hL W _ hL b7) hb8 o8 (by omega) (by omega)
      rw [show ((k + 1 : Nat) : Int) = (k : Int) + 1 by omega, show ((k + 1 + 1 : Nat) : Int) = (k : Int) + 1 + 1 by omega] at hdel
      clear hr8
      go_wp2_with (go_at_call 53; refine Calls.mono hdel ?_; rintro e W9 ⟨v9, rfl, o9, hg9, hb9⟩; have b9 := b7.trans (hb9.mono b7.size))
      refine Calls.mono ((Tryz.pcheckL (l.eraseIdx (k + 1)) (by have := List.length_eraseIdx_le l (k + 1); omega) (fun p hp => HF.out.1 p (List.mem_of_mem_eraseIdx hp))).2 (fun b _ => b < W9.heap.size) W9 [v9] (fun _ _ h => h) (Tryz.hL W _ hL b9) (Reps.cons (rep_own2 o9 (HB.out _ (fun _ h => List.mem_of_mem_eraseIdx h)) (fun _ _ _ h => h)) .nil)) ?_
      rintro e W10 ⟨v10, rfl, hb10, hr10⟩
      obtain rfl : v10 = .int .i64 (chkN (l.eraseIdx (k + 1)) false) := (by cases hr10; rfl)
      have b10 := b9.trans (hb10.mono b9.size)
      have o10 := o7.kept (gr_below (r := none) (hb9.trans (hb10.mono hb9.size))) (.inr (by simp [Value.ownBlock]))
      clear hr10 hb10 hb9 hg9 hb8 o8 o9 hdel
      cases hgd : good (l.eraseIdx (k + 1)) with
      | true =>
        have hn : chkN (l.eraseIdx (k + 1)) false = 0 := by unfold good at hgd; exact of_decide_eq_true hgd
        rw [hn]
        go_wp2
        go_roundg (l.length - (k + 3))
        case measure => omega
        case rel =>
         have hp1 : pick q l (k + 1) = some (k + 1, absQ z) := by rw [HPK.out, if_pos ⟨.inr ⟨HC.out, HS0.out⟩, hgd⟩]
         exact ⟨k + 1, by go_num, by omega, by omega, by rw [hp1]; simp [atV], by rw [hp1]; rfl, o10, b10⟩
      | false =>
        have hn : ¬chkN (l.eraseIdx (k + 1)) false = 0 := fun h => by unfold good at hgd; rw [h] at hgd; cases hgd
        generalize chkN (l.eraseIdx (k + 1)) false = n at hn ⊢
        go_wp2
        go_roundg (l.length - (k + 3))
        case measure => omega
        case rel =>
         have hp1 : pick q l (k + 1) = st := by rw [HPK.out, if_neg (fun h => by rw [hgd] at h; cases h.2)]
         exact ⟨k + 1, by go_num, by omega, by omega, by rw [hp1, hat], by rw [hp1]; exact hle.symm, o10, b10⟩
     ·have hj0 : (0 : Int) ≤ (j : Int) := Int.natCast_nonneg _
      rw [hat]
      go_wp2_with (go_at_call 21; refine Calls.mono hC7 ?_; rintro e W7 ⟨v7, rfl, hb7, hr7⟩; obtain rfl : v7 = .int .i64 (0) := (by cases hr7; rfl); clear hr7; have b7 := b6.trans (hb7.mono b6.size); have o7 := o6.kept (gr_below (r := none) hb7) (.inr (by simp [Value.ownBlock])); clear hb7)
      go_roundg (l.length - (k + 3))
      case measure => omega
      case rel =>
       have hp1 : pick q l (k + 1) = st := by rw [HPK.out, if_neg (fun h => by rcases h.1 with h | h; exact absurd HC.out (by grind); exact hs0 h.2)]
       exact ⟨k + 1, by go_num, by omega, by omega, by rw [hp1, hat], by rw [hp1]; exact hle.symm, o7, b7⟩
    ·have ec : cmpQ (absQ z) (lvQ q st) = 1 := by unfold cmpQ; rw [if_neg (by grind), if_pos hc]
     rw [ec] at hC7
     go_wp2_with (go_at_call 21; refine Calls.mono hC7 ?_; rintro e W7 ⟨v7, rfl, hb7, hr7⟩; obtain rfl : v7 = .int .i64 (1) := (by cases hr7; rfl); clear hr7; have b7 := b6.trans (hb7.mono b6.size); have o7 := o6.kept (gr_below (r := none) hb7) (.inr (by simp [Value.ownBlock])); clear hb7)
     go_roundg (l.length - (k + 3))
     case measure => omega
     case rel =>
      have hp1 : pick q l (k + 1) = st := by rw [HPK.out, if_neg (fun h => by rcases h.1 with h | h; exact absurd hc (by grind); exact absurd hc (by grind))]
      exact ⟨k + 1, by go_num, by omega, by omega, by rw [hp1], by rw [hp1]; exact hle.symm, o7, b7⟩
   ·have hk2 : k + 2 = l.length := by omega
    have HK : Hid (k + 2 = l.length) := hk2
    have i3 : ¬((k : Int) + 1 + 1 < (l.length : Int)) := by omega
    have w2 : IntKind.i64.wrap ((k : Int) + 1 + 1) = (k : Int) + 1 + 1 := by rw [IntKind.wrap_i64]; omega
    have HB : Hid (∀ m : List Pt, (∀ p ∈ m, p ∈ l) → ∀ y ∈ m, (rt y.1).length ≤ maxLen ∧ (rt y.2).length ≤ maxLen) := fun m hm y hy => by
     obtain ⟨h1, h2⟩ := HF.out.1 y (hm y hy)
     have l1 := rt_len y.1; have l2 := rt_len y.2
     exact ⟨by unfold maxLen; omega, by unfold maxLen; omega⟩
    clear hk2 hk hgk hlt
    rcases st_cases2 (pick q l k) with ⟨hs0, hat⟩ | ⟨j, y, hs0, hat⟩
    ·rw [hat]
     have HP : Hid (pick q l k = none) := hs0
     clear hs0 hat hle
     go_wp2
     go_ret2
     refine ⟨.tuple #[.slice (some ⟨g, 0, none⟩) l.length cap, .int .i64 0], by simp, hbn, ?_⟩
     rw [← HF.out.2.2, simp_none HK.out HP.out]
     refine Rep.tup [chn l, .int .i64 0] [.slice (some ⟨g, 0, none⟩) l.length cap, .int .i64 0] rfl fun i d v hd hv => ?_
     match i with
     | 0 =>
       cases hd; cases hv
       exact rep_own2 hwn (HB.out l (fun _ h => h)) (fun b _ h1 h2 => .inr ⟨h1, h2⟩)
     | 1 => cases hd; cases hv; exact .int _ _
     | i + 2 => simp at hd
    ·rw [hat]
     obtain ⟨j1, j2, j3, j4⟩ := pick_spec hs0
     have hkk := HK.out
     have hdel := Tryz.pdelete W wr _ l j hL hbn hwn (by omega) (by omega)
     rw [show ((j + 1 : Nat) : Int) = (j : Int) + 1 by omega] at hdel
     have hj0 : ¬((j : Int) < 0) := by omega
     have w4 : IntKind.i64.wrap ((j : Int) + 1) = (j : Int) + 1 := by rw [IntKind.wrap_i64]; omega
     have HP : Hid (pick q l k = some (j, y)) := hs0
     clear hs0 hat hle hkk j1 j2 j3
     go_wp2_with (go_at_call 53; refine Calls.mono hdel ?_; rintro e W9 ⟨v9, rfl, o9, hg9, hb9⟩)
     go_roundg (l.length - 1)
     case measure => have := HK.out; omega
     case rel =>
      obtain ⟨j1, j2, j3, _⟩ := pick_spec HP.out
      have hkk := HK.out
      have e2 : (l.eraseIdx j).length = l.length - 1 := List.length_eraseIdx_of_lt (by omega)
      exact ⟨l.eraseIdx j, by omega, by omega, ⟨fun p hp => HF.out.1 p (List.mem_of_mem_eraseIdx hp), j4, by rw [← simp_some HK.out HP.out]; exact HF.out.2.2⟩, o9, hb9⟩
end Go.Proofs

/-
 POLYLINE: Ring, total, Area. Own work.
-/
namespace Go.Proofs
open Go Go.Pi Go.RowKit Go.Ar Go.Ge

theorem ringprev {n i : Nat} (hi : i < n) : (i + n - 1) % n < n ∧ ((i + n - 1) % n + 1) % n = i := by
 have h0 : 0 < n := by omega
 refine ⟨Nat.mod_lt _ h0, ?_⟩
 by_cases h : i = 0
 ·subst h
  rw [show 0 + n - 1 = n - 1 by omega, Nat.mod_eq_of_lt (show n - 1 < n by omega), show n - 1 + 1 = n by omega, Nat.mod_self]
 ·rw [show i + n - 1 = (i - 1) + n by omega, Nat.add_mod_right, Nat.mod_eq_of_lt (show i - 1 < n by omega), show i - 1 + 1 = i by omega, Nat.mod_eq_of_lt hi]
theorem ringnext {n j : Nat} (hj : j < n) : (j + 1) % n < n ∧ ((j + 1) % n + n - 1) % n = j := by
 have h0 : 0 < n := by omega
 refine ⟨Nat.mod_lt _ h0, ?_⟩
 by_cases h : j + 1 = n
 ·rw [h, Nat.mod_self, show 0 + n - 1 = j by omega, Nat.mod_eq_of_lt hj]
 ·rw [Nat.mod_eq_of_lt (show j + 1 < n by omega), show j + 1 + n - 1 = j + n by omega, Nat.add_mod_right, Nat.mod_eq_of_lt hj]
set_option maxRecDepth 100000 in
set_option maxHeartbeats 4000000 in
theorem Tryz.pringL (c : List Pt) (hlen : c.length ≤ 1000) (hsz : ∀ p ∈ c, Sz 30 p) : Con Tryz.prog Tryz.L 38 [chn c] (.int .i64 (chkN c true)) := by
 refine rule38 Tryz.hL rfl rfl rfl ?_
 (simp only [pc38, rs38, oU, oC]; refine ev ?_; try exact ⟨⟩)
 have hg : ∀ j, j < c.length → c[j]? = some (gt c j) := fun j hj => by
  rw [List.getElem?_eq_getElem hj]; simp [gt, List.getD_eq_getElem?_getD, hj]
 have hsg : segs c true = c.length := rfl
 unfold chkN
 rw [hsg]
 simp only [if_true]
 refine ⟨fun h => by rw [if_pos (by omega)], fun h => ⟨fun h2 => by rw [if_neg (by omega), if_pos (by omega)], fun h2 => ?_⟩⟩
 rw [if_neg (by omega), if_neg (by omega)]
 refine loopF_of (fun E => ∃ i : Nat, i ≤ c.length ∧ (∀ j, j < i → gt c ((j + c.length - 1) % c.length) ≠ gt c j) ∧ E = [(0, chn c), (13, chn c), (14, .int .i64 c.length), (15, .int .i64 i)])
  (fun E => match lk E 15 with | .int _ i => c.length - i.toNat | _ => 0) ⟨0, by omega, fun _ h => absurd h (by omega), rfl⟩ ?_
 rintro _ ⟨i, hi, hno, rfl⟩
 (refine ev ?_; repeat (simp only [ldC_pts]; try refine ev ?_); try exact ⟨⟩)
 refine ⟨fun h1 => ?_, fun h1 => ?_⟩
 ·refine ⟨⟨by omega, by omega, by rw [pts_len]; omega⟩, _, hg i (by omega), ?_⟩
  have hz : Sz 200 (gt c i) := (hsz _ (List.mem_of_getElem? (hg i (by omega)))).more (by decide)
  have hcp := Tryz.ppoint (gt c i) hz
  generalize hx : gt c i = x at *
  (try simp only [pD]; refine ev ?_; try exact ⟨⟩)
  refine callF_of hcp ?_
  (refine ev ?_; repeat (simp only [ldC_pts]; try refine ev ?_); try exact ⟨⟩)
  obtain ⟨q1, q2⟩ := ringprev (show i < c.length by omega)
  have e1 : ((i : Int) + (c.length : Int) - 1).tmod (c.length : Int) = (((i + c.length - 1) % c.length : Nat) : Int) := by
   rw [show (i : Int) + (c.length : Int) - 1 = ((i + c.length - 1 : Nat) : Int) by omega]; rfl
  have hg1 := hg _ q1
  have hno' := hno
  rw [e1]
  simp only [Int.toNat_natCast]
  generalize hk : (i + c.length - 1) % c.length = k at *
  refine ⟨⟨by omega, by omega⟩, ⟨by omega, by omega⟩, by omega, ⟨by omega, by omega, by rw [pts_len]; omega⟩, gt c k, hg1, eqOk_pt _ x, fun h4 => ?_, fun h4 => ⟨⟨by omega, by omega⟩, ⟨i + 1, by omega, fun j hj => ?_, by simp⟩, by omega⟩⟩
  ·have h5 := (eq_pt (gt c k) x).1 h4
   rw [if_pos (dbl_iff.2 ⟨k, by omega, by rw [q2, hx]; exact h5⟩)]
  ·by_cases e : j = i
   ·intro h5
    rw [e, hk, hx] at h5
    exact h4 ((eq_pt _ x).2 h5)
   ·exact hno j (by omega)
 ·have e : i = c.length := by omega
  subst e
  have hnd : ¬dbl c c.length = true := fun h3 => by
   obtain ⟨j, h4, h5⟩ := dbl_iff.1 h3
   obtain ⟨r1, r2⟩ := ringnext h4
   exact hno _ r1 (by rw [r2]; exact h5)
  rw [if_neg hnd]
  refine callF_of (Tryz.psimple c c.length (by omega) (by omega) hsz) ?_
  (refine ev ?_; try exact ⟨⟩)
/-- the sum of the triangles, up to a place -/
def totK (c : List Pt) : Nat → Rat
 | 0 => 0
 | k + 1 => if 2 ≤ k then totK c k + ar (gt c 0) (gt c (k - 1)) (gt c k) else 0
theorem rd_nought : rd (0 : Rat) ≤ 1 := by
 have h := rd_z 0
 rw [show ((0 : Int) : Rat) = 0 from rfl] at h
 rw [h]
 exact dd_len_le (by decide) (by decide)
theorem ldC_pts0 {l : List Pt} {t : Nat} {N : EP} {E : Env} : ldC true 2 (List.take 2 (pts l)) t N E = (∃ x, l[0]? = some x ∧ N (st1 E t (.agg (pD x)))) := ldC_pts (l := l) (k := 0)
theorem rd_totK {c : List Pt} (hsz : ∀ p ∈ c, Sz 30 p) : ∀ {k : Nat}, k ≤ c.length → rd (totK c k) ≤ 250 * k + 1
 | 0, _ => by show rd 0 ≤ 1; exact rd_nought
 | k + 1, hk => by
   unfold totK
   split
   ·have ih := rd_totK hsz (k := k) (by omega)
    have hz : ∀ j, j < c.length → Sz 30 (gt c j) := fun j hj => hsz _ (List.mem_of_getElem? (show c[j]? = some (gt c j) by rw [List.getElem?_eq_getElem hj]; simp [gt, List.getD_eq_getElem?_getD, hj]))
    have h1 := rd_ar30 (hz 0 (by omega)) (hz (k - 1) (by omega)) (hz k (by omega))
    have h2 := rd_add (totK c k) (ar (gt c 0) (gt c (k - 1)) (gt c k))
    omega
   ·have := rd_nought
    omega
set_option maxHeartbeats 4000000 in
theorem Tryz.ptotal (c : List Pt) (hlen : c.length ≤ 8) (h3 : 3 ≤ c.length) (hsz : ∀ p ∈ c, Sz 30 p) : Con Tryz.prog Tryz.L 66 [chn c] (.str (rt (totK c c.length))) := by
 have hg : ∀ j, j < c.length → c[j]? = some (gt c j) := fun j hj => by
  rw [List.getElem?_eq_getElem hj]; simp [gt, List.getD_eq_getElem?_getD, hj]
 have hz : ∀ j, j < c.length → Sz 30 (gt c j) := fun j hj => hsz _ (List.mem_of_getElem? (hg j hj))
 refine rule66 Tryz.hL rfl rfl rfl ?_
 (simp only [pc66, rs66, oU, oC]; refine ev ?_; try exact ⟨⟩)
 refine loopF_of (fun E => ∃ k : Nat, 2 ≤ k ∧ k ≤ c.length ∧ E = [(0, chn c), (3, .str (rt (totK c k))), (4, .int .i64 k)])
  (fun E => match lk E 4 with | .int _ i => c.length - i.toNat | _ => 0) ⟨2, by omega, by omega, by rw [show totK c 2 = 0 from rfl, zero_txt]; rfl⟩ ?_
 rintro _ ⟨k, hk2, hk, rfl⟩
 (refine ev ?_; repeat (simp only [ldC_pts, ldC_pts0]; try refine ev ?_); try exact ⟨⟩)
 refine ⟨fun h1 => ?_, fun h1 => ?_⟩
 ·have hr := rd_totK hsz (k := k) (by omega)
  have ha := rd_ar30 (hz 0 (by omega)) (hz (k - 1) (by omega)) (hz k (by omega))
  have e1 : ((k : Int) - 1).toNat = k - 1 := by omega
  rw [e1]
  refine ⟨⟨by omega, by rw [pts_len]; omega⟩, _, hg 0 (by omega), ⟨by omega, by omega⟩, ⟨by omega, by omega, by rw [pts_len]; omega⟩, _, hg (k - 1) (by omega), ⟨by omega, by omega, by rw [pts_len]; omega⟩, _, hg k (by omega), ?_⟩
  refine callF_of (Tryz.parea _ _ _ ((hz 0 (by omega)).more (by decide)) ((hz (k - 1) (by omega)).more (by decide)) ((hz k (by omega)).more (by decide))) ?_
  (refine ev ?_; try exact ⟨⟩)
  refine callF_of (Tryz.radd _ _ (by omega) (by omega)) ?_
  (refine ev ?_; try exact ⟨⟩)
  have e2 : totK c (k + 1) = totK c k + ar (gt c 0) (gt c (k - 1)) (gt c k) := by
   show (if 2 ≤ k then _ else _) = _
   rw [if_pos hk2]
  exact ⟨⟨by omega, by omega⟩, ⟨k + 1, by omega, by omega, by rw [e2]; exact ⟨rfl, rfl⟩⟩, by omega⟩
 ·have e : k = c.length := by omega
  subst e
  rfl
set_option maxHeartbeats 4000000 in
theorem Tryz.pareaR (c : List Pt) (hlen : c.length ≤ 8) (hsz : ∀ p ∈ c, Sz 30 p) (hc : chkN c true = 0) (hr : rd (totK c c.length) ≤ 200) : Con Tryz.prog Tryz.L 30 [chn c] (.tup [.str (rt (totK c c.length)), .int .i64 0]) := by
 have h3 : 3 ≤ c.length := by
  unfold chkN at hc
  by_cases h : c.length < 3
  ·rw [if_pos (by simpa using h)] at hc; exact absurd hc (by decide)
  ·omega
 have c1 := Tryz.pringL c (by omega) hsz
 rw [hc] at c1
 refine rule30 Tryz.hL rfl rfl rfl ?_
 (simp only [pc30, rs30, oU, oC]; refine ev ?_; try exact ⟨⟩)
 refine callF_of c1 ?_
 (refine ev ?_; try exact ⟨⟩)
 refine callF_of (Tryz.ptotal c hlen h3 hsz) ?_
 (refine ev ?_; try exact ⟨⟩)
 refine callF_of (Tryz.rcheckQ _ hr) ?_
 (refine ev ?_; try exact ⟨⟩)
 simp [resD_two, rvD, lk, D.plain, D.isPure, optAll]
end Go.Proofs

/-
 POLYLINE: the law's between, meet. Own work.
-/
namespace Go.Proofs
open Go Go.Pi Go.RowKit Go.Ar Go.Ge

/-- what the law's meet returns -/
def lmO (a b c d : Pt) : List Pt → D
 | [] => if 0 ≤ ar c d a * ar c d b ∨ 0 ≤ ar a b c * ar a b d then mtD .apart else mtD (.touch (atK a b (ar c d a) (ar c d b)))
 | [x] => mtD (.touch x)
 | x :: _ :: _ => .tup [.int .i64 2, ptD x]
def lmD (a b c d : Pt) : D := lmO a b c d (onB a b c d [a, b, c, d])
end Go.Proofs

/-
 POLYLINE: the law's right; L02.Right. Own work.
-/
namespace Go.Proofs
open Go Go.Pi Go.RowKit Go.Ar Go.Ge

end Go.Proofs

/-
 POLYLINE: the law's check. Own work.
-/
namespace Go.Proofs
open Go Go.Pi Go.RowKit Go.Ar Go.Ge

end Go.Proofs

/-
 POLYLINE: Crossings. Own work.
-/
namespace Go.Proofs
open Go Go.Pi Go.RowKit Go.Ar Go.Ge

def crD (x : Cr) : List D := [.int .i64 x.1, .int .i64 x.2.1, .str (rt x.2.2.1), .str (rt x.2.2.2)]
theorem crD_len (x : Cr) : (crD x).length = 4 := rfl
abbrev crl (l : List Cr) : List D := rows crD l
theorem crl_len (l : List Cr) : (crl l).length = l.length * 4 := rows_length crD_len l
theorem crl_snoc (l : List Cr) (x : Cr) : crl (l ++ [x]) = crl l ++ crD x := rows_snoc
/-- what Crossings returns -/
def crR (M : Nat → Nat → Mt) (na nb : Nat) : D := if ovC M na nb = true then .tup [.sl 0 [], .int .i64 7] else .tup [.sl (outC M nb na).length (crl (outC M nb na)), .int .i64 0]
theorem crR_al (M : Nat → Nat → Mt) (na nb : Nat) : aliasOf (crR M na nb) = none := by unfold crR; split <;> rfl
theorem Tryz.pcr1 (x : Cr) (h : Sz 200 x.2.2) : Con Tryz.prog Tryz.L 48 [.agg (crD x)] (.bool false) := by
 refine rule48 Tryz.hL rfl rfl rfl ?_
 (try simp only [crD, pc48, rs48, oU, oC]; refine ev ?_; try exact ⟨⟩)
 refine callF_of (Tryz.ppoint x.2.2 h) ?_
 (refine ev ?_; try exact ⟨⟩)
theorem ldC_crl {l : List Cr} {k t : Nat} {N : EP} {E : Env} : ldC true 4 (List.take 4 (List.drop (k * 4) (crl l))) t N E = (∃ x, l[k]? = some x ∧ N (st1 E t (.agg (crD x)))) := by
 unfold ldC
 cases h : l[k]? with
 | none =>
   have hk : l.length ≤ k := by simpa using h
   have e : List.take 4 (List.drop (k * 4) (crl l)) = [] := by rw [List.drop_eq_nil_of_le (by rw [rows_length crD_len]; omega)]; rfl
   rw [e]; simp [ofCells]
 | some x =>
   obtain ⟨r, e⟩ := rows_at crD_len h
   have e2 : List.take 4 (List.drop (k * 4) (crl l)) = crD x := by rw [e]; rfl
   rw [e2]
   simp [ofCells, crD]
set_option maxHeartbeats 4000000 in
theorem Tryz.pcrIdx (l : List Cr) (hl : l.length ≤ 1000) (h : ∀ x ∈ l, Sz 200 x.2.2) : Con Tryz.prog Tryz.L 98 [.sl l.length (crl l), .clo 48 []] (.int .i64 (-1)) := by
 refine rule98 Tryz.hL rfl rfl rfl ?_
 (simp only [pc98, rs98, oU, oC]; refine ev ?_; try exact ⟨⟩)
 refine loopF_of (fun E => ∃ k : Nat, k ≤ l.length ∧ E = [(0, .sl l.length (crl l)), (1, .clo 48 []), (7, .int .i64 l.length), (8, .int .i64 k)])
  (fun E => match lk E 8 with | .int _ i => l.length - i.toNat | _ => 0) ⟨0, by omega, rfl⟩ ?_
 rintro _ ⟨k, hk, rfl⟩
 (refine ev ?_; repeat (simp only [ldC_crl]; try refine ev ?_); try exact ⟨⟩)
 ·intro h1
  have hx : l[k]? = some (l[k]'(by omega)) := List.getElem?_eq_getElem (by omega)
  generalize l[k]'(by omega) = x at hx
  refine ⟨⟨by omega, by omega, by rw [crl_len]; omega⟩, x, hx, ?_⟩
  have hc := Tryz.pcr1 x (h x (List.mem_of_getElem? hx))
  simp only [crD, evX, evY, evZ, forall_const, implies_true, initE, stepF, D.clean, mvF, moF, tkF, shF, ariF, ciF, catF, scF, ebF, eqF, eqOk, eqPr, enF, notF, ngF, cvF, csF, csbF, lenF, lenSF, ixF, iaF, PX.slot, iaAF, faF, ldF, D.mem, stF, bxF, mkSF, boundF, fldF, ixAF, mmF2, D.plain, D.isPure, optAll, D.dull, callVF, splice, D.cells, D.one, sets, resT, D.flat, D.flat0, D.simple, Nat.reduceBNe, Nat.reduceLT, reduceIte, Nat.reduceEqDiff, Nat.reduceAdd, Nat.reduceMul, Nat.reduceSub, Nat.reduceLeDiff, Int.reduceToNat, Int.reduceLT, Int.reduceLE, Int.reduceEq, Int.reduceNeg, Int.reduceSub, Int.reduceAdd, Int.reduceMul, stG_own] at hc ⊢
  refine callF_of hc ?_
  (refine ev ?_; try exact ⟨⟩)
  exact ⟨⟨by omega, by omega⟩, ⟨k + 1, by omega, by simp⟩, by omega⟩
theorem Tryz.pcrHas (l : List Cr) (hl : l.length ≤ 1000) (h : ∀ x ∈ l, Sz 200 x.2.2) : Con Tryz.prog Tryz.L 47 [.sl l.length (crl l), .clo 48 []] (.bool false) := by
 refine rule47 Tryz.hL rfl rfl rfl ?_
 (simp only [pc47, rs47, oU, oC]; refine ev ?_; try exact ⟨⟩)
 refine callF_of (Tryz.pcrIdx l hl h) ?_
 (refine ev ?_; try exact ⟨⟩)
 try rfl
/-- the place at which small segments meet is small -/
theorem sz_meetP {a b c d p : Pt} (ha : Sz 2 a) (hb : Sz 2 b) (hc : Sz 2 c) (hd : Sz 2 d) (h : meetP a b c d = .touch p) : Sz 100 p := by
 unfold meetP at h
 split at h
 ·have hm : ∀ {x y : Pt}, Sz 2 x → Sz 2 y → Sz 2 (mn x y) ∧ Sz 2 (mx x y) := fun hx hy => by
   unfold mn mx; split <;> exact ⟨by assumption, by assumption⟩
  unfold colP at h
  simp only at h
  split at h
  ·cases h
   exact (hm (hm ha hb).1 (hm hc hd).1).2.more (by decide)
  ·split at h <;> cases h
 ·split at h
  ·cases h
  ·cases h
   have r1 : rd (ar a b c) ≤ 21 := by
    unfold ar
    have s1 := rd_sub b.1 a.1; have s2 := rd_sub c.2 a.2; have s3 := rd_sub b.2 a.2; have s4 := rd_sub c.1 a.1
    have m1 := rd_mul (b.1 - a.1) (c.2 - a.2); have m2 := rd_mul (b.2 - a.2) (c.1 - a.1)
    have := rd_sub ((b.1 - a.1) * (c.2 - a.2)) ((b.2 - a.2) * (c.1 - a.1))
    have := ha.1; have := ha.2; have := hb.1; have := hb.2; have := hc.1; have := hc.2
    omega
   have r2 : rd (ar a b d) ≤ 21 := by
    unfold ar
    have s1 := rd_sub b.1 a.1; have s2 := rd_sub d.2 a.2; have s3 := rd_sub b.2 a.2; have s4 := rd_sub d.1 a.1
    have m1 := rd_mul (b.1 - a.1) (d.2 - a.2); have m2 := rd_mul (b.2 - a.2) (d.1 - a.1)
    have := rd_sub ((b.1 - a.1) * (d.2 - a.2)) ((b.2 - a.2) * (d.1 - a.1))
    have := ha.1; have := ha.2; have := hb.1; have := hb.2; have := hd.1; have := hd.2
    omega
   have r3 := rd_sub (ar a b c) (ar a b d)
   have r4 := rd_div (ar a b c) (ar a b c - ar a b d)
   have hc1 := hc.1; have hc2 := hc.2; have hd1 := hd.1; have hd2 := hd.2
   have r5 := rd_sub d.1 c.1
   have r6 := rd_sub d.2 c.2
   have r7 := rd_mul (ar a b c / (ar a b c - ar a b d)) (d.1 - c.1)
   have r8 := rd_mul (ar a b c / (ar a b c - ar a b d)) (d.2 - c.2)
   have r9 := rd_add c.1 (ar a b c / (ar a b c - ar a b d) * (d.1 - c.1))
   have r10 := rd_add c.2 (ar a b c / (ar a b c - ar a b d) * (d.2 - c.2))
   exact ⟨show rd (c.1 + ar a b c / (ar a b c - ar a b d) * (d.1 - c.1)) ≤ 100 by omega, show rd (c.2 + ar a b c / (ar a b c - ar a b d) * (d.2 - c.2)) ≤ 100 by omega⟩
theorem gt_sz {c : List Pt} {k : Nat} (h : ∀ p ∈ c, Sz k p) {j : Nat} (hj : j < c.length) : Sz k (gt c j) :=
 h _ (List.mem_of_getElem? (show c[j]? = some (gt c j) by rw [List.getElem?_eq_getElem hj]; simp [gt, List.getD_eq_getElem?_getD, hj]))
set_option maxRecDepth 100000 in
set_option maxHeartbeats 8000000 in
theorem Tryz.pcrossings (a b : List Pt) (ha : a.length ≤ 10) (hb : b.length ≤ 10) (hza : ∀ p ∈ a, Sz 2 p) (hzb : ∀ p ∈ b, Sz 2 p) (hga : good a = true) (hgb : good b = true) : Con Tryz.prog Tryz.L 14 [chn a, chn b] (crR (mP a b) (a.length - 1) (b.length - 1)) := by
 have hca : chkN a false = 0 := by simpa [good] using hga
 have hcb : chkN b false = 0 := by simpa [good] using hgb
 have la := good_len hga
 have lb := good_len hgb
 have ca := Tryz.pcheckL a (by omega) (fun p hp => (hza p hp).more (by decide))
 have cb := Tryz.pcheckL b (by omega) (fun p hp => (hzb p hp).more (by decide))
 rw [hca] at ca
 rw [hcb] at cb
 have hA : ∀ j, j < a.length → a[j]? = some (gt a j) := fun j hj => by
  rw [List.getElem?_eq_getElem hj]; simp [gt, List.getD_eq_getElem?_getD, hj]
 have hB : ∀ j, j < b.length → b[j]? = some (gt b j) := fun j hj => by
  rw [List.getElem?_eq_getElem hj]; simp [gt, List.getD_eq_getElem?_getD, hj]
 obtain ⟨na, hna⟩ : ∃ na, a.length = na + 1 := ⟨a.length - 1, by omega⟩
 obtain ⟨nb, hnb⟩ : ∃ nb, b.length = nb + 1 := ⟨b.length - 1, by omega⟩
 rw [show a.length - 1 = na by omega, show b.length - 1 = nb by omega]
 refine rule14 Tryz.hL (crR_al _ _ _) rfl rfl ?_
 (simp only [pc14, rs14, oU, oC]; refine ev ?_; try exact ⟨⟩)
 refine loopF_of (fun E => ∃ k : Nat, k ≤ 2 ∧ E = [(0, chn a), (1, chn b), (16, .agg [chn a, chn b]), (17, .int .i64 k)])
  (fun E => match lk E 17 with | .int _ i => 2 - i.toNat | _ => 0) ⟨0, by omega, rfl⟩ ?_
 rintro _ ⟨k, hk, rfl⟩
 obtain rfl | rfl | rfl : k = 0 ∨ k = 1 ∨ k = 2 := by omega
 ·(refine ev ?_; try exact ⟨⟩)
  refine ⟨fun _ => ⟨by decide, ?_⟩, fun h => absurd (by decide) h⟩
  refine callF_of ca ?_
  (refine ev ?_; try exact ⟨⟩)
  exact ⟨by decide, ⟨1, by omega, rfl⟩, by decide⟩
 ·(refine ev ?_; try exact ⟨⟩)
  refine ⟨fun _ => ⟨by decide, ?_⟩, fun h => absurd (by decide) h⟩
  refine callF_of cb ?_
  (refine ev ?_; try exact ⟨⟩)
  exact ⟨by decide, ⟨2, by omega, rfl⟩, by decide⟩
 ·(refine ev ?_; try exact ⟨⟩)
  have e1 : (a.length : Int) - 1 = (na : Int) := by omega
  have e2 : (b.length : Int) - 1 = (nb : Int) := by omega
  refine ⟨fun h => absurd h (by decide), fun _ => ⟨⟨by omega, by omega⟩, ?_⟩⟩
  rw [e1]
  refine loopF_of (fun E => ∃ i : Nat, i ≤ na ∧ (∀ i' k', i' < i → k' < nb → (mP a b i' k').isOver = false) ∧ E = [(0, chn a), (1, chn b), (9, .own true 37 (outC (mP a b) nb i).length (crl (outC (mP a b) nb i))), (28, .int .i64 na), (29, .int .i64 i)])
   (fun E => match lk E 29 with | .int _ i => na - i.toNat | _ => 0) ⟨0, by omega, fun _ _ h => absurd h (by omega), rfl⟩ ?_
  rintro _ ⟨i, hi, hno, rfl⟩
  (refine ev ?_; try exact ⟨⟩)
  refine ⟨fun h1 => ⟨⟨by omega, by omega⟩, ?_⟩, fun h1 => ?_⟩
  ·rw [e2]
   refine loopF_of (fun E => ∃ k : Nat, k ≤ nb ∧ (∀ k', k' < k → (mP a b i k').isOver = false) ∧ E = [(0, chn a), (1, chn b), (9, .own true 37 (outC (mP a b) nb i ++ rowC (mP a b) i k).length (crl (outC (mP a b) nb i ++ rowC (mP a b) i k))), (10, .int .i64 i), (28, .int .i64 na), (29, .int .i64 i), (34, .int .i64 nb), (35, .int .i64 k)])
    (fun E => match lk E 35 with | .int _ i => nb - i.toNat | _ => 0) ⟨0, by omega, fun _ h => absurd h (by omega), by rw [show rowC (mP a b) i 0 = [] from rfl, List.append_nil]; rfl⟩ ?_
   rintro _ ⟨k, hk, hno2, rfl⟩
   (refine ev ?_; repeat (simp only [ldC_pts]; try refine ev ?_); try exact ⟨⟩)
   have hol : (outC (mP a b) nb i ++ rowC (mP a b) i k).length ≤ 1000 := by
    rw [List.length_append]
    have h1 := outC_len (mP a b) nb i
    have h2 := rowC_len (mP a b) i k
    have h3 : i * nb ≤ 9 * 9 := Nat.mul_le_mul (by omega) (by omega)
    omega
   refine ⟨fun h2 => ?_, fun h2 => ?_⟩
   ·have e3 : ((i : Int) + 1).toNat = i + 1 := by omega
    have e4 : ((k : Int) + 1).toNat = k + 1 := by omega
    rw [e3, e4]
    refine ⟨⟨by omega, by omega, by rw [pts_len]; omega⟩, _, hA i (by omega), ⟨by omega, by omega⟩, ⟨by omega, by omega, by rw [pts_len]; omega⟩, _, hA (i + 1) (by omega), ⟨by omega, by omega, by rw [pts_len]; omega⟩, _, hB k (by omega), ⟨by omega, by omega⟩, ⟨by omega, by omega, by rw [pts_len]; omega⟩, _, hB (k + 1) (by omega), ?_⟩
    have cm : Con Tryz.prog Tryz.L 46 [ptD (gt a i), ptD (gt a (i + 1)), ptD (gt b k), ptD (gt b (k + 1))] (mtD (mP a b i k)) := Tryz.pmeet (gt a i) (gt a (i + 1)) (gt b k) (gt b (k + 1)) ((gt_sz hza (by omega)).more (by decide)) ((gt_sz hza (by omega)).more (by decide)) ((gt_sz hzb (by omega)).more (by decide)) ((gt_sz hzb (by omega)).more (by decide))
    have hrow : rowC (mP a b) i (k + 1) = rowC (mP a b) i k ++ (mP a b i k).tch i k := rfl
    have hov : (mP a b i k).isOver = true → crR (mP a b) na nb = .tup [.sl 0 [], .int .i64 7] := fun h => if_pos (ovC_iff.2 ⟨i, k, by omega, by omega, h⟩)
    have hno3 : (mP a b i k).isOver = false → ∀ k', k' < k + 1 → (mP a b i k').isOver = false := fun h k' hk' => by
     by_cases e : k' = k
     ·rw [e]; exact h
     ·exact hno2 k' (by omega)
    refine callF_of cm ?_
    clear cm
    cases hm : mP a b i k with
    | apart =>
      rw [hm] at hrow hno3
      rw [show Mt.tch i k .apart = [] from rfl, List.append_nil] at hrow
      (try simp only [mtD, ptD]; refine ev ?_; repeat (simp only [ldC_pts]; try refine ev ?_); try exact ⟨⟩)
      exact ⟨⟨by omega, by omega⟩, ⟨k + 1, by omega, hno3 rfl, by rw [hrow], by simp⟩, by omega⟩
    | over =>
      rw [hm] at hov
      (try simp only [mtD, ptD]; refine ev ?_; repeat (simp only [ldC_pts]; try refine ev ?_); try exact ⟨⟩)
      rw [hov rfl]
      rfl
    | touch p =>
      rw [hm] at hrow hno3
      (try simp only [mtD, ptD]; refine ev ?_; repeat (simp only [ldC_pts]; try refine ev ?_); try exact ⟨⟩)
      refine ⟨by omega, by omega, ⟨by omega, by omega⟩, ⟨k + 1, by omega, hno3 rfl, ?_, by simp⟩, by omega⟩
      have e5 := crl_snoc (outC (mP a b) nb i ++ rowC (mP a b) i k) (i, k, p)
      rw [hrow, show Mt.tch i k (.touch p) = [(i, k, p)] from rfl, ← List.append_assoc, e5]
      generalize outC (mP a b) nb i ++ rowC (mP a b) i k = o
      rw [List.length_append]
      rfl
   ·refine ⟨⟨by omega, by omega⟩, ⟨i + 1, by omega, fun i' k' h3 h4 => ?_, ?_, by simp⟩, by omega⟩
    ·by_cases e : i' = i
     ·rw [e]; exact hno2 k' (by omega)
     ·exact hno i' k' (by omega) h4
    ·have e : k = nb := by omega
     rw [e]; rfl
  ·have hol : (outC (mP a b) nb i).length ≤ 1000 := by
    have h1 := outC_len (mP a b) nb i
    have h3 : i * nb ≤ 9 * 9 := Nat.mul_le_mul (by omega) (by omega)
    omega
   have e : i = na := by omega
   subst e
   have hz : ∀ x ∈ outC (mP a b) nb i, Sz 200 x.2.2 := fun x hx => by
    obtain ⟨h1, h2, h3⟩ := mem_outC hx
    exact (sz_meetP (gt_sz hza (by omega)) (gt_sz hza (by omega)) (gt_sz hzb (by omega)) (gt_sz hzb (by omega)) h3).more (by decide)
   refine callF_of (Tryz.pcrHas _ hol hz) ?_
   (refine ev ?_; try exact ⟨⟩)
   have hnov : ¬ovC (mP a b) i nb = true := fun h => by
    obtain ⟨i', k', h3, h4, h5⟩ := ovC_iff.1 h
    rw [hno i' k' h3 h4] at h5; cases h5
   unfold crR
   rw [if_neg hnov]
   rfl
end Go.Proofs

/-
 POLYLINE: the law's crossings. Own work.
-/
namespace Go.Proofs
open Go Go.Pi Go.RowKit Go.Ar Go.Ge

/-- what the law's crossings returns -/
def crL (M : Nat → Nat → Mt) (na nb : Nat) : D := if ovC M na nb = true then .tup [.sl 0 [], .bool true] else .tup [.sl (outC M nb na).length (crl (outC M nb na)), .bool false]
end Go.Proofs

/-
 POLYLINE: the chapter's examples. Own work.
-/
namespace Go.Proofs
open Go Go.Pi Go.RowKit Go.Ar Go.Ge

def exA : List Pt := [(0, 0), (4, 0)]
def exB : List Pt := [(1, -1), (1, 1), (3, 1), (3, -1)]
def exC : List Pt := [(0, 0), (1, 0), (2, 1), (4, 0)]
def exD : List Pt := [(0, 0), (2, 0), (2, 2)]
def szB (k : Nat) (l : List Pt) : Bool := l.all fun p => decide (rd p.1 ≤ k) && decide (rd p.2 ≤ k)
theorem sz_of_B {k : Nat} {l : List Pt} (h : szB k l = true) : ∀ p ∈ l, Sz k p := fun p hp => by
 have := List.all_eq_true.1 h p hp
 simpa [Sz] using this
theorem Tryz.kCross : Con Tryz.prog Tryz.L 14 [.sl 2 [.str [48], .str [48], .str [52], .str [48]], .sl 4 [.str [49], .str [45, 49], .str [49], .str [49], .str [51], .str [49], .str [51], .str [45, 49]]]
  (.tup [.sl 2 [.int .i64 0, .int .i64 0, .str [49], .str [48], .int .i64 0, .int .i64 2, .str [51], .str [48]], .int .i64 0]) := by
 have h := Tryz.pcrossings exA exB (by decide) (by decide) (sz_of_B (by decide +kernel)) (sz_of_B (by decide +kernel)) (by decide +kernel) (by decide +kernel)
 rw [show crR (mP exA exB) (exA.length - 1) (exB.length - 1) = .tup [.sl 2 [.int .i64 0, .int .i64 0, .str [49], .str [48], .int .i64 0, .int .i64 2, .str [51], .str [48]], .int .i64 0] by
  have e1 : ovC (mP exA exB) (exA.length - 1) (exB.length - 1) = false := by decide +kernel
  have e2 : outC (mP exA exB) (exB.length - 1) (exA.length - 1) = [(0, 0, (1, 0)), (0, 2, (3, 0))] := by decide +kernel
  have e3 : crl [(0, 0, ((1 : Rat), (0 : Rat))), (0, 2, ((3 : Rat), (0 : Rat)))] = [.int .i64 0, .int .i64 0, .str [49], .str [48], .int .i64 0, .int .i64 2, .str [51], .str [48]] := by kernel_rfl
  rw [crR, e1, e2, e3, if_neg (by decide)]
  rfl] at h
 rw [show chn exA = .sl 2 [.str [48], .str [48], .str [52], .str [48]] by kernel_rfl, show chn exB = .sl 4 [.str [49], .str [45, 49], .str [49], .str [49], .str [51], .str [49], .str [51], .str [45, 49]] by kernel_rfl] at h
 exact h
theorem Tryz.kSimp : Con Tryz.prog Tryz.L 16 [.sl 4 [.str [48], .str [48], .str [49], .str [48], .str [50], .str [49], .str [52], .str [48]], .str [49]]
  (.tup [.sl 3 [.str [48], .str [48], .str [50], .str [49], .str [52], .str [48]], .int .i64 0]) := by
 have h := Tryz.psimplify exC 1 (by decide) (sz_of_B (by decide +kernel)) (by decide +kernel) (by decide +kernel) (by decide +kernel)
 rw [show simp 1 exC.length exC = [(0, 0), (2, 1), (4, 0)] by decide +kernel, show rt 1 = [49] by kernel_rfl, show chn exC = .sl 4 [.str [48], .str [48], .str [49], .str [48], .str [50], .str [49], .str [52], .str [48]] by kernel_rfl, show chn [((0 : Rat), (0 : Rat)), ((2 : Rat), (1 : Rat)), ((4 : Rat), (0 : Rat))] = .sl 3 [.str [48], .str [48], .str [50], .str [49], .str [52], .str [48]] by kernel_rfl] at h
 exact h
theorem Tryz.kArea : Con Tryz.prog Tryz.L 30 [.sl 3 [.str [48], .str [48], .str [50], .str [48], .str [50], .str [50]]] (.tup [.str [52], .int .i64 0]) := by
 have h := Tryz.pareaR exD (by decide) (sz_of_B (by decide +kernel)) (by decide +kernel) (by decide +kernel)
 rw [show totK exD exD.length = 4 by decide +kernel, show rt 4 = [52] by kernel_rfl, show chn exD = .sl 3 [.str [48], .str [48], .str [50], .str [48], .str [50], .str [50]] by kernel_rfl] at h
 exact h
set_option maxRecDepth 100000 in
set_option maxHeartbeats 4000000 in
theorem Tryz.known11 : Con Tryz.prog Tryz.L 11 [] (.bool true) := by
 refine rule11 Tryz.hL rfl rfl rfl ?_
 (simp only [pc11, rs11, oU, oC]; refine ev ?_; try exact ⟨⟩)
 refine callF_of Tryz.kCross ?_
 (refine ev ?_; try exact ⟨⟩)
 refine callF_of Tryz.kSimp ?_
 (refine ev ?_; try exact ⟨⟩)
 refine callF_of Tryz.kArea ?_
 (refine ev ?_; try exact ⟨⟩)
 decide
end Go.Proofs

/-
 POLYLINE: the law PolylineCrosses. Own work.
-/
namespace Go.Proofs
open Go Go.Pi Go.RowKit Go.Ar Go.Ge

theorem good_iff {c : List Pt} : good c = true ↔ chkN c false = 0 := by simp [good]
end Go.Proofs

/-
 POLYLINE: Has, Locate; the law's locate. Own work.
-/
namespace Go.Proofs
open Go Go.Pi Go.RowKit Go.Ar Go.Ge

/-- has a chain a place? -/
def hasB (c : List Pt) (p : Pt) : Bool := (List.range (c.length - 1)).any fun i => decide (btw (gt c i) (gt c (i + 1)) p)
theorem hasB_iff {c : List Pt} {p : Pt} : hasB c p = true ↔ ∃ i, i < c.length - 1 ∧ btw (gt c i) (gt c (i + 1)) p := by simp [hasB]
/-- where a place is -/
def locB (c : List Pt) (p : Pt) : Bool := (List.range c.length).any fun i => decide (btw (gt c i) (gt c ((i + 1) % c.length)) p)
theorem locB_iff {c : List Pt} {p : Pt} : locB c p = true ↔ ∃ i, i < c.length ∧ btw (gt c i) (gt c ((i + 1) % c.length)) p := by simp [locB]
def locP (c : List Pt) (p : Pt) : Int := if locB c p = true then 0 else sE (gt c) c.length p c.length
def locL (c : List Pt) (p : Pt) : Int := if locB c p = true then 0 else sN (gt c) c.length p c.length
set_option maxHeartbeats 4000000 in
theorem Tryz.phas (c : List Pt) (p : Pt) (hl : c.length ≤ 400) (hz : ∀ p ∈ c, Sz 30 p) (hp : Sz 200 p) (hg : good c = true) : Con Tryz.prog Tryz.L 26 [chn c, ptD p] (.tup [.bool (hasB c p), .int .i64 0]) := by
 have hcc := Tryz.pcheckL c (by omega) hz
 rw [show chkN c false = 0 by simpa [good] using hg] at hcc
 have l2 := good_len hg
 have hC : ∀ j, j < c.length → c[j]? = some (gt c j) := fun j hj => by
  rw [List.getElem?_eq_getElem hj]; simp [gt, List.getD_eq_getElem?_getD, hj]
 have hS : ∀ j, j < c.length → Sz 300 (gt c j) := fun j hj => (hz _ (List.mem_of_getElem? (hC j hj))).more (by decide)
 refine rule26 Tryz.hL rfl rfl rfl ?_
 (try simp only [ptD, pc26, rs26, oU, oC]; refine ev ?_; try exact ⟨⟩)
 refine callF_of hcc ?_
 (refine ev ?_; try exact ⟨⟩)
 refine callF_of (Tryz.ppoint p hp) ?_
 (refine ev ?_; try exact ⟨⟩)
 refine loopF_of (fun E => ∃ k : Nat, 1 ≤ k ∧ k ≤ c.length ∧ (∀ i, i + 1 < k → ¬btw (gt c i) (gt c (i + 1)) p) ∧ E = [(0, chn c), (3, .box true [.str (rt p.1), .str (rt p.2)]), (7, .int .i64 k)])
  (fun E => match lk E 7 with | .int _ i => c.length - i.toNat | _ => 0) ⟨1, by omega, by omega, fun _ h => absurd h (by omega), rfl⟩ ?_
 rintro _ ⟨k, h1, hk, hno, rfl⟩
 (refine ev ?_; repeat (simp only [ldC_pts]; try refine ev ?_); try exact ⟨⟩)
 have e1 : ((k : Int) - 1).toNat = k - 1 := by omega
 rw [e1]
 refine ⟨fun h2 => ?_, fun h2 => ?_⟩
 ·refine ⟨⟨by omega, by omega⟩, ⟨by omega, by omega, by rw [pts_len]; omega⟩, _, hC (k - 1) (by omega), ⟨by omega, by omega, by rw [pts_len]; omega⟩, _, hC k (by omega), ?_⟩
  refine callF_of (Tryz.pon (gt c (k - 1)) (gt c k) p (hS _ (by omega)) (hS _ (by omega)) (hp.more (by decide))) ?_
  cases hb : decide (btw (gt c (k - 1)) (gt c k) p) with
  | true =>
    (refine ev ?_; try exact ⟨⟩)
    have h3 : hasB c p = true := hasB_iff.2 ⟨k - 1, by omega, by rw [show k - 1 + 1 = k by omega]; exact of_decide_eq_true hb⟩
    rw [h3]
    rfl
  | false =>
    (refine ev ?_; try exact ⟨⟩)
    refine ⟨⟨by omega, by omega⟩, ⟨k + 1, by omega, by omega, fun i hi => ?_, by simp⟩, by omega⟩
    by_cases e : i + 1 = k
    ·rw [show i = k - 1 by omega, show k - 1 + 1 = k by omega]; exact of_decide_eq_false hb
    ·exact hno i (by omega)
 ·have h3 : hasB c p = false := by
   rw [Bool.eq_false_iff]
   intro h
   obtain ⟨i, h4, h5⟩ := hasB_iff.1 h
   exact hno i (by omega) h5
  rw [h3]
  rfl
theorem num_pos {z : Rat} : 0 < z.num ↔ 0 < z := by
 constructor
 ·intro h
  have h3 := Rat.num_nonneg.1 (Int.le_of_lt h)
  have h4 : z ≠ 0 := fun e => by rw [e] at h; exact absurd h (by decide)
  exact Rat.not_le.1 fun h5 => h4 (Rat.le_antisymm h5 h3)
 ·intro h
  have h3 := Rat.num_nonneg.2 (Rat.le_of_lt h)
  have h4 : z.num ≠ 0 := fun e => by rw [Rat.num_eq_zero.1 e] at h; exact absurd h (by decide)
  omega
theorem sign_pos' (z : Int) : (0 < z.sign ↔ 0 < z) ∧ (z.sign < 0 ↔ z < 0) := by
 rcases Int.lt_trichotomy z 0 with h | h | h
 ·rw [Int.sign_eq_neg_one_of_neg h]; omega
 ·subst h; decide
 ·rw [Int.sign_eq_one_of_pos h]; omega
theorem trn_pos (a b c : Pt) : 0 < trn a b c ↔ 0 < ar a b c := by unfold trn; rw [(sign_pos' _).1, num_pos]
theorem cmpQ_le (a b : Rat) : cmpQ a b ≤ 0 ↔ a ≤ b := by
 have h := cmpQ_pm a b
 rw [← Rat.not_lt, ← h.2.2]; omega
/-- the test of one side, as numbers compare -/
def eastC (a b p : Pt) : Prop := if 0 < cmpQ a.2 b.2 then cmpQ b.2 p.2 ≤ 0 ∧ cmpQ p.2 a.2 < 0 ∧ 0 < trn b a p else cmpQ a.2 p.2 ≤ 0 ∧ cmpQ p.2 b.2 < 0 ∧ 0 < trn a b p
theorem east_cmp (a b p : Pt) : eastP a b p ↔ eastC a b p := by
 unfold eastP eastC
 rw [trn_pos, trn_pos, (cmpQ_pm p.2 a.2).2.1, (cmpQ_pm p.2 b.2).2.1, cmpQ_le, cmpQ_le]
 by_cases h : b.2 < a.2
 ·rw [if_pos h, if_pos ((cmpQ_pm a.2 b.2).2.2.2 h)]
 ·rw [if_neg h, if_neg (fun k => h ((cmpQ_pm a.2 b.2).2.2.1 k))]
set_option maxRecDepth 100000 in
set_option maxHeartbeats 8000000 in
theorem Tryz.plocate (c : List Pt) (p : Pt) (hl : c.length ≤ 400) (hz : ∀ p ∈ c, Sz 30 p) (hp : Sz 200 p) (hg : chkN c true = 0) (h3 : 3 ≤ c.length) : Con Tryz.prog Tryz.L 27 [chn c, ptD p] (.tup [.int .i64 (locP c p), .int .i64 0]) := by
 have hcc := Tryz.pringL c (by omega) hz
 rw [hg] at hcc
 have hC : ∀ j, j < c.length → c[j]? = some (gt c j) := fun j hj => by
  rw [List.getElem?_eq_getElem hj]; simp [gt, List.getD_eq_getElem?_getD, hj]
 have hS : ∀ j, j < c.length → Sz 300 (gt c j) := fun j hj => (hz _ (List.mem_of_getElem? (hC j hj))).more (by decide)
 have hP := hp.more (show 200 ≤ 300 by decide)
 refine rule27 Tryz.hL rfl rfl rfl ?_
 (try simp only [ptD, pc27, rs27, oU, oC]; refine ev ?_; try exact ⟨⟩)
 refine callF_of hcc ?_
 (refine ev ?_; try exact ⟨⟩)
 refine callF_of (Tryz.ppoint p hp) ?_
 (refine ev ?_; try exact ⟨⟩)
 refine loopF_of (fun E => ∃ k : Nat, k ≤ c.length ∧ (∀ i, i < k → ¬btw (gt c i) (gt c ((i + 1) % c.length)) p) ∧ E = [(0, chn c), (3, .box true [.str (rt p.1), .str (rt p.2)]), (7, .int .i64 (sE (gt c) c.length p k)), (19, chn c), (20, .int .i64 c.length), (21, .int .i64 k)])
  (fun E => match lk E 21 with | .int _ i => c.length - i.toNat | _ => 0) ⟨0, by omega, fun _ h => absurd h (by omega), rfl⟩ ?_
 rintro _ ⟨k, hk, hno, rfl⟩
 (refine ev ?_; repeat (simp only [ldC_pts]; try refine ev ?_); try exact ⟨⟩)
 have m1 : (k + 1) % c.length < c.length := Nat.mod_lt _ (by omega)
 have e2 : ((k : Int) + 1).tmod (c.length : Int) = (((k + 1) % c.length : Nat) : Int) := rfl
 rw [e2]
 simp only [Int.toNat_natCast]
 refine ⟨fun h1 => ?_, fun h1 => ?_⟩
 ·refine ⟨⟨by omega, by omega, by rw [pts_len]; omega⟩, _, hC k (by omega), rfl, rfl, ⟨by omega, by omega⟩, by omega, ⟨by omega, by omega, by rw [pts_len]; omega⟩, _, hC _ m1, rfl, rfl, ?_⟩
  have s1 := hS k (by omega)
  have s2 := hS _ m1
  have hs1 : eastC (gt c k) (gt c ((k + 1) % c.length)) p → sE (gt c) c.length p (k + 1) = 0 - sE (gt c) c.length p k := fun h => if_pos ((east_cmp _ _ _).2 h)
  have hs2 : ¬eastC (gt c k) (gt c ((k + 1) % c.length)) p → sE (gt c) c.length p (k + 1) = sE (gt c) c.length p k := fun h => if_neg (fun h' => h ((east_cmp _ _ _).1 h'))
  have hyes : btw (gt c k) (gt c ((k + 1) % c.length)) p → locP c p = 0 := fun h => if_pos (locB_iff.2 ⟨k, by omega, h⟩)
  have hnx : ¬btw (gt c k) (gt c ((k + 1) % c.length)) p → ∀ i, i < k + 1 → ¬btw (gt c i) (gt c ((i + 1) % c.length)) p := fun h i hi => by
   by_cases e : i = k
   ·rw [e]; exact h
   ·exact hno i (by omega)
  have hpm := sE_pm (gt c) c.length p k
  generalize gt c k = a at hs1 hs2 hyes hnx s1 ⊢
  generalize gt c ((k + 1) % c.length) = b at hs1 hs2 hyes hnx s2 ⊢
  (try simp only [pD]; refine ev ?_; try exact ⟨⟩)
  refine callF_of (Tryz.pon a b p s1 s2 hP) ?_
  cases hb : decide (btw a b p) with
  | true =>
    (refine ev ?_; try exact ⟨⟩)
    rw [hyes (of_decide_eq_true hb)]
    rfl
  | false =>
    (refine ev ?_; try exact ⟨⟩)
    have hnx' := hnx (of_decide_eq_false hb)
    refine callF_of (Tryz.rcompare a.2 b.2 (by have := s1.2; omega) (by have := s2.2; omega)) ?_
    (refine ev ?_; try exact ⟨⟩)
    refine ⟨fun hab => ?_, fun hab => ?_⟩
    ·have hE : eastC a b p ↔ (cmpQ b.2 p.2 ≤ 0 ∧ cmpQ p.2 a.2 < 0 ∧ 0 < trn b a p) := by unfold eastC; rw [if_pos hab]
     have out : ¬(cmpQ b.2 p.2 ≤ 0 ∧ cmpQ p.2 a.2 < 0 ∧ 0 < trn b a p) → sE (gt c) c.length p (k + 1) = sE (gt c) c.length p k := fun h => hs2 (fun h' => h (hE.1 h'))
     refine callF_of (Tryz.rcompare b.2 p.2 (by have := s1.2; have := s2.2; omega) (by have := hP.2; omega)) ?_
     (refine ev ?_; try exact ⟨⟩)
     refine ⟨fun h4 => ?_, fun h4 => ⟨⟨by omega, by omega⟩, ⟨k + 1, by omega, hnx', by rw [out (fun h => h4 h.1)], by simp⟩, by omega⟩⟩
     refine callF_of (Tryz.rcompare p.2 a.2 (by have := hP.2; omega) (by have := s1.2; have := s2.2; omega)) ?_
     (refine ev ?_; try exact ⟨⟩)
     refine ⟨fun h5 => ?_, fun h5 => ⟨⟨by omega, by omega⟩, ⟨k + 1, by omega, hnx', by rw [out (fun h => h5 h.2.1)], by simp⟩, by omega⟩⟩
     refine callF_of (Tryz.pturn b a p (by assumption) (by assumption) hP) ?_
     (refine ev ?_; try exact ⟨⟩)
     refine ⟨fun h6 => ⟨⟨by omega, by omega⟩, ⟨by omega, by omega⟩, ⟨k + 1, by omega, hnx', by rw [hs1 (hE.2 ⟨h4, h5, h6⟩)], by simp⟩, by omega⟩, fun h6 => ⟨⟨by omega, by omega⟩, ⟨k + 1, by omega, hnx', by rw [out (fun h => h6 h.2.2)], by simp⟩, by omega⟩⟩
    ·have hE : eastC a b p ↔ (cmpQ a.2 p.2 ≤ 0 ∧ cmpQ p.2 b.2 < 0 ∧ 0 < trn a b p) := by unfold eastC; rw [if_neg hab]
     have out : ¬(cmpQ a.2 p.2 ≤ 0 ∧ cmpQ p.2 b.2 < 0 ∧ 0 < trn a b p) → sE (gt c) c.length p (k + 1) = sE (gt c) c.length p k := fun h => hs2 (fun h' => h (hE.1 h'))
     refine callF_of (Tryz.rcompare a.2 p.2 (by have := s1.2; have := s2.2; omega) (by have := hP.2; omega)) ?_
     (refine ev ?_; try exact ⟨⟩)
     refine ⟨fun h4 => ?_, fun h4 => ⟨⟨by omega, by omega⟩, ⟨k + 1, by omega, hnx', by rw [out (fun h => h4 h.1)], by simp⟩, by omega⟩⟩
     refine callF_of (Tryz.rcompare p.2 b.2 (by have := hP.2; omega) (by have := s1.2; have := s2.2; omega)) ?_
     (refine ev ?_; try exact ⟨⟩)
     refine ⟨fun h5 => ?_, fun h5 => ⟨⟨by omega, by omega⟩, ⟨k + 1, by omega, hnx', by rw [out (fun h => h5 h.2.1)], by simp⟩, by omega⟩⟩
     refine callF_of (Tryz.pturn a b p (by assumption) (by assumption) hP) ?_
     (refine ev ?_; try exact ⟨⟩)
     refine ⟨fun h6 => ⟨⟨by omega, by omega⟩, ⟨by omega, by omega⟩, ⟨k + 1, by omega, hnx', by rw [hs1 (hE.2 ⟨h4, h5, h6⟩)], by simp⟩, by omega⟩, fun h6 => ⟨⟨by omega, by omega⟩, ⟨k + 1, by omega, hnx', by rw [out (fun h => h6 h.2.2)], by simp⟩, by omega⟩⟩
 ·have e : k = c.length := by omega
  subst e
  have : locB c p = false := by
   rw [Bool.eq_false_iff]
   intro h
   obtain ⟨i, h4, h5⟩ := locB_iff.1 h
   exact hno i h4 h5
  unfold locP
  rw [this]
  rfl
end Go.Proofs

/-
 POLYLINE: the law's locate; the law PolylineLocates. Own work.
-/
namespace Go.Proofs
open Go Go.Pi Go.RowKit Go.Ar Go.Ge

def northC (a b p : Pt) : Prop := if 0 < cmpQ a.1 b.1 then cmpQ b.1 p.1 ≤ 0 ∧ cmpQ p.1 a.1 < 0 ∧ (ar b a p).num.sign < 0 else cmpQ a.1 p.1 ≤ 0 ∧ cmpQ p.1 b.1 < 0 ∧ (ar a b p).num.sign < 0
def hasK (c : List Pt) (p : Pt) (k : Nat) : Bool := (List.range k).any fun i => decide (btw (gt c i) (gt c (i + 1)) p)
end Go.Proofs

/-
 POLYLINE: slices.Reverse of points, in the plain walk. Own work.
-/
namespace Go.Proofs
open Go Go.Pi Go.RowKit Go.Shelf Go.Ar Go.Ge

/-- the first i places and the last i exchanged -/
def revK (l d : List Pt) (i : Nat) : Prop := d.length = l.length ∧ ∀ k, k < l.length → d[k]? = if k < i ∨ l.length - 1 - k < i then l[l.length - 1 - k]? else l[k]?
end Go.Proofs

/-
 POLYLINE: slices.Grow of a nil slice of points; Concat, MinFunc, Index. Own work.
-/
namespace Go.Proofs
open Go Go.Pi Go.RowKit Go.Shelf Go.Ar Go.Ge

/-- the place of the first least point among the first k -/
def minI (c : List Pt) : Nat → Nat
 | 0 => 0
 | k + 1 => if cmpP (gt c k) (gt c (minI c k)) < 0 then k else minI c k
end Go.Proofs

/-
 POLYLINE: slices.Concat of two parts of one own row. Own work.
-/
namespace Go.Pi
open Go Go.RowKit
variable {α : Type} {f g : α → List UInt8}
end Go.Pi
namespace Go.Proofs
open Go Go.Pi Go.RowKit Go.Ar Go.Ge
end Go.Proofs

/-
 POLYLINE: Orient, in the plain walk. Own work.
-/
namespace Go.Proofs
open Go Go.Pi Go.RowKit Go.Shelf Go.Ar Go.Ge

def oriE (c : List Pt) : List Pt := if totK c c.length < 0 then c.reverse else c
def oriK (c : List Pt) : Nat := minI (oriE c) c.length
end Go.Proofs

/-
 POLYLINE: the law PolylineAreas. Own work.
-/
namespace Go.Proofs
open Go Go.Pi Go.RowKit Go.Ar Go.Ge

theorem fan_snoc (a : Pt) : ∀ (l : List Pt) (x y : Pt), fan a x (l ++ [y]) = fan a x l + ar a (l.getLastD x) y
 | [], x, y => by show fan a x [y] = fan a x [] + _; unfold fan; unfold fan; show ar a x y + 0 = 0 + ar a x y; grind
 | z :: l, x, y => by
   show ar a x z + fan a z (l ++ [y]) = ar a x z + fan a z l + _
   rw [fan_snoc a l z y]
   have : (z :: l).getLastD x = l.getLastD z := by cases l <;> rfl
   rw [this]; grind
theorem ar_aa (a x : Pt) : ar a a x = 0 := by unfold ar; grind
theorem last_take {l : List Pt} {a : Pt} : ∀ {k : Nat}, 0 < k → k ≤ l.length → (l.take k).getLastD a = gt (a :: l) k
 | 0, h, _ => absurd h (by omega)
 | k + 1, _, hk => by
   have hx : l[k]? = some (l[k]'(by omega)) := List.getElem?_eq_getElem (by omega)
   rw [List.take_add_one, hx]
   have e : gt (a :: l) (k + 1) = l[k]'(by omega) := gt_get (by show l[k]? = _; exact hx)
   rw [e]
   show (l.take k ++ [l[k]'(by omega)]).getLastD a = _
   generalize l.take k = t
   generalize l[k]'(by omega) = y
   simp
theorem totK_fan (a : Pt) (l : List Pt) : ∀ k, k ≤ l.length → totK (a :: l) (k + 1) = fan a a (l.take k)
 | 0, _ => rfl
 | k + 1, hk => by
   have ih := totK_fan a l k (by omega)
   have hx : l[k]? = some (l[k]'(by omega)) := List.getElem?_eq_getElem (by omega)
   have e1 : gt (a :: l) (k + 1) = l[k]'(by omega) := gt_get (by show l[k]? = _; exact hx)
   rw [List.take_add_one, hx]
   show (if 2 ≤ k + 1 then totK (a :: l) (k + 1) + ar (gt (a :: l) 0) (gt (a :: l) (k + 1 - 1)) (gt (a :: l) (k + 1)) else 0) = fan a a (l.take k ++ [l[k]'(by omega)])
   rw [fan_snoc, ← e1]
   by_cases h : 2 ≤ k + 1
   ·rw [if_pos h, ih, last_take (by omega) (by omega)]
    rfl
   ·obtain rfl : k = 0 := by omega
    rw [if_neg h]
    show (0 : Rat) = 0 + ar a a _
    rw [ar_aa]; grind
theorem totK_cyc : ∀ (c : List Pt), totK c c.length = cyc c
 | [] => rfl
 | a :: l => by
   rw [show (a :: l).length = l.length + 1 from rfl, totK_fan a l l.length (Nat.le_refl _), List.take_length, fan_cyc]
theorem rd_ar1 {a b c : Pt} (ha : Sz 1 a) (hb : Sz 1 b) (hc : Sz 1 c) : rd (ar a b c) ≤ 13 := by
 unfold ar
 have s1 := rd_sub b.1 a.1; have s2 := rd_sub c.2 a.2; have s3 := rd_sub b.2 a.2; have s4 := rd_sub c.1 a.1
 have m1 := rd_mul (b.1 - a.1) (c.2 - a.2); have m2 := rd_mul (b.2 - a.2) (c.1 - a.1)
 have := rd_sub ((b.1 - a.1) * (c.2 - a.2)) ((b.2 - a.2) * (c.1 - a.1))
 have := ha.1; have := ha.2; have := hb.1; have := hb.2; have := hc.1; have := hc.2
 omega
theorem rd_totK1 {c : List Pt} (hsz : ∀ p ∈ c, Sz 1 p) : ∀ {k : Nat}, k ≤ c.length → rd (totK c k) ≤ 14 * k + 1
 | 0, _ => by show rd 0 ≤ 1; exact rd_nought
 | k + 1, hk => by
   unfold totK
   split
   ·have ih := rd_totK1 hsz (k := k) (by omega)
    have h1 := rd_ar1 (gt_sz hsz (show 0 < c.length by omega)) (gt_sz hsz (show k - 1 < c.length by omega)) (gt_sz hsz (show k < c.length by omega))
    have h2 := rd_add (totK c k) (ar (gt c 0) (gt c (k - 1)) (gt c k))
    omega
   ·have := rd_nought
    omega
end Go.Proofs
namespace Go.Proofs
open Go Go.Pi Go.RowKit Go.Ar Go.Ge
end Go.Proofs

/-
 ARITHMETIC: integer.Root by Newton's steps. Own work.
-/
namespace Go.Ar
/-- the root of a number -/
def nrt : Nat → Nat
 | 0 => 0
 | n + 1 => if (nrt n + 1) * (nrt n + 1) ≤ n + 1 then nrt n + 1 else nrt n
theorem nrt_spec : ∀ n, nrt n * nrt n ≤ n ∧ n < (nrt n + 1) * (nrt n + 1)
 | 0 => by simp [nrt]
 | n + 1 => by
   obtain ⟨h1, h2⟩ := nrt_spec n
   simp only [nrt]
   split
   ·rename_i h
    refine ⟨h, ?_⟩
    have e : (nrt n + 1 + 1) * (nrt n + 1 + 1) = (nrt n + 1) * (nrt n + 1) + 2 * (nrt n + 1) + 1 := by
     rw [Nat.add_mul, Nat.mul_add, Nat.one_mul, Nat.mul_one]; omega
    omega
   ·exact ⟨by omega, by omega⟩
theorem nrt_unique {n r : Nat} (h1 : r * r ≤ n) (h2 : n < (r + 1) * (r + 1)) : r = nrt n := by
 obtain ⟨h3, h4⟩ := nrt_spec n
 rcases Nat.lt_trichotomy r (nrt n) with h | h | h
 ·have := Nat.mul_le_mul (show r + 1 ≤ nrt n from h) (show r + 1 ≤ nrt n from h); omega
 ·exact h
 ·have := Nat.mul_le_mul (show nrt n + 1 ≤ r from h) (show nrt n + 1 ≤ r from h); omega
theorem am_gm (a b : Nat) : 4 * (a * b) ≤ (a + b) * (a + b) := by
 rcases Nat.le_total a b with h | h
 ·obtain ⟨k, rfl⟩ := Nat.exists_eq_add_of_le h
  have : (a + (a + k)) * (a + (a + k)) = 4 * (a * (a + k)) + k * k := by grind
  omega
 ·obtain ⟨k, rfl⟩ := Nat.exists_eq_add_of_le h
  have : (b + k + b) * (b + k + b) = 4 * ((b + k) * b) + k * k := by grind
  omega
/-- one step of Newton's -/
theorem newton_up {n x : Nat} (hx : 0 < x) : n < ((x + n / x) / 2 + 1) * ((x + n / x) / 2 + 1) := by
 have h1 : n < x * (n / x + 1) := by have := Nat.lt_mul_div_succ n hx; exact this
 have h2 := am_gm x (n / x + 1)
 generalize n / x = q at *
 have h3 : x + (q + 1) ≤ 2 * ((x + q) / 2 + 1) := by omega
 have h4 := Nat.mul_le_mul h3 h3
 generalize (x + q) / 2 + 1 = y at *
 have h5 : 2 * y * (2 * y) = 4 * (y * y) := by rw [Nat.mul_assoc, Nat.mul_left_comm y 2 y, ← Nat.mul_assoc]
 omega
theorem newton_end {n x : Nat} (hx : 0 < x) (hn : n < (x + 1) * (x + 1)) (h : x ≤ (x + n / x) / 2) : x = nrt n := by
 refine nrt_unique ?_ hn
 have h1 : x ≤ n / x := by omega
 have h2 := Nat.mul_le_mul_left x h1
 have h3 := Nat.mul_div_le n x
 omega
theorem newton_pos {n x : Nat} (h0 : 0 < n) (hx : 0 < x) : 0 < (x + n / x) / 2 := by
 rcases Nat.eq_zero_or_pos ((x + n / x) / 2) with h | h
 ·have := newton_up (n := n) hx
  rw [h] at this; omega
 ·exact h
theorem nrt_le (n : Nat) : nrt n ≤ n := by
 have h := (nrt_spec n).1
 rcases Nat.eq_zero_or_pos (nrt n) with h0 | h0
 ·omega
 ·have := Nat.mul_le_mul_left (nrt n) (show 1 ≤ nrt n from h0); omega
theorem nrt_zero {n : Nat} : nrt n = 0 ↔ n = 0 := by
 constructor
 ·intro h; have := (nrt_spec n).2; rw [h] at this; omega
 ·rintro rfl; rfl
theorem nrt_sq (r : Nat) : nrt (r * r) = r := (nrt_unique (Nat.le_refl _) (by rw [Nat.add_mul, Nat.mul_add]; omega)).symm
end Go.Ar
namespace Go.Proofs
open Go Go.Pi Go.RowKit Go.Ar

theorem cutz_one (j : Nat) : cutz (List.replicate j 0 ++ [1]) = List.replicate j 0 ++ [1] := cutz_snoc (by decide) _
theorem pcs_pow (j : Nat) : pcs (1000000000 ^ j) = List.replicate j 0 ++ [1] := by
 have hd : isD big (List.replicate j 0 ++ [1]) := isD_snoc (isD_repl j) ⟨by decide, by decide⟩
 have h := cutz_eq (B := 1000000000) (by decide) hd
 rw [cutz_one] at h
 rw [h]
 have e : vl ((1000000000 : Nat) : Int) (List.replicate j 0 ++ [1]) = ((1000000000 ^ j : Nat) : Int) := by
  rw [vl_append, vl_repl, List.length_replicate, Int.natCast_pow]; simp [vl]
 rw [e, Int.toNat_natCast]
theorem sq_start {n : Nat} : n < (1000000000 ^ (((pcs n).length + 1) / 2) + 1) * (1000000000 ^ (((pcs n).length + 1) / 2) + 1) := by
 have h1 := pcs_lt n
 have h2 : 1000000000 ^ (pcs n).length ≤ 1000000000 ^ (((pcs n).length + 1) / 2 + ((pcs n).length + 1) / 2) := Nat.pow_le_pow_right (by decide) (by omega)
 rw [Nat.pow_add] at h2
 have h3 := Nat.mul_le_mul (Nat.le_succ (1000000000 ^ (((pcs n).length + 1) / 2))) (Nat.le_succ (1000000000 ^ (((pcs n).length + 1) / 2)))
 exact Nat.lt_of_lt_of_le h1 (Nat.le_trans h2 h3)

set_option maxHeartbeats 2000000 in
theorem Tryz.root (n : Nat) (hn : dl (n : Int) ≤ 40000) : Con Tryz.prog Tryz.L 169 [.str (tz (n : Int))] (.tup [.str (tz (nrt n : Int)), .int .i64 0]) := by
 have td := tz_dl (n : Int)
 have pn : (pcs n).length ≤ 40000 := Nat.le_trans (pcs_dl (n : Int)) hn
 refine rule169 Tryz.hL rfl rfl rfl ?_
 (simp only [pc169, rs169, oU, oC]; refine ev ?_; try exact ⟨⟩)
 have hs := Tryz.sign (n : Int) (by omega)
 have ho := Tryz.open (n : Int) (by omega)
 rw [Int.natAbs_natCast, dB_f (show ¬(n : Int) < 0 by omega)] at ho
 refine callF_of hs ?_
 (refine ev ?_; try exact ⟨⟩)
 refine ⟨fun h => absurd h (fun h => by have := (Int.sign_nonneg_iff (x := (n : Int))).2 (by omega); omega), fun _ => ?_⟩
 refine callF_of ho ?_
 ((try simp only [num]); refine ev ?_; try exact ⟨⟩)
 refine ⟨fun h => ?_, fun h => ?_⟩
 ·have h0 : n = 0 := by
   rcases Nat.eq_zero_or_pos n with h1 | h1
   ·exact h1
   ·have := pcs_len_pos h1; omega
  subst h0
  simp [resD_two, rvD, lk, D.plain, D.isPure, optAll, nrt]
  exact ((tz_zero 0).2 rfl).symm
 have hn0 : 0 < n := by
  rcases Nat.eq_zero_or_pos n with h1 | h1
  ·rw [h1, pcs_zero] at h; simp at h
  ·exact h1
 have hst := @sq_start n
 have hpp := pcs_pow (((pcs n).length + 1) / 2)
 have e2 : ((((pcs n).length : Int) + 1).tdiv 2) = ((((pcs n).length + 1) / 2 : Nat) : Int) := by
  rw [show (((pcs n).length : Int) + 1) = (((pcs n).length + 1 : Nat) : Int) by omega]; rfl
 rw [e2, Int.toNat_natCast]
 have hj : ((pcs n).length + 1) / 2 ≤ 20001 := by omega
 generalize ((pcs n).length + 1) / 2 = j at *
 have hx0 : 0 < 1000000000 ^ j := Nat.pow_pos (by decide)
 and_intros <;> try omega
 refine loopF_of (fun E => ∃ (x : Nat) (d5 : D), (d5 = num x ∨ d5 = .own true 178 (pcs x).length (ints .u64 (pcs x))) ∧ 0 < x ∧ n < (x + 1) * (x + 1) ∧ (pcs x).length ≤ 40001 ∧ E = [(4, num n), (5, d5)])
  (fun E => match lk E 5 with | .sl _ cs => (vl big (cs.map dInt)).toNat | .own _ _ _ cs => (vl big (cs.map dInt)).toNat + 1 | _ => 0)
  ⟨1000000000 ^ j, _, .inr rfl, hx0, hst, by rw [hpp]; simp; omega, by rw [hpp]; simp [ints, num]⟩ ?_
 rintro _ ⟨x, d5, h5, hx, hx2, hxl, rfl⟩
 have lq := pcs_len_mono (Nat.div_le_self n x)
 have hdv := Tryz.divide n x (by omega) (by omega) hx
 have ls := pcs_len_add (k := 40001) (m := x) (n := n / x) (by omega) (by omega)
 have hpl := Tryz.n_plus x (n / x) (by omega) (by omega)
 have p2 : pcs 2 = [2] := pcs_small (by decide) (by decide)
 have hd2 := Tryz.divide (x + n / x) 2 (by omega) (by rw [p2]; simp) (by decide)
 rw [show num 2 = D.sl 1 [.int .u64 2] by unfold num; rw [p2]; rfl] at hd2
 have ly := pcs_len_mono (Nat.div_le_self (x + n / x) 2)
 have hor := Tryz.order ((x + n / x) / 2) x (by omega) (by omega)
 have hup := newton_up (n := n) hx
 have hen := newton_end hx hx2
 have hpo := newton_pos hn0 hx
 have hcl := Tryz.closeZ false x (by omega)
 generalize (x + n / x) / 2 = y at *
 have cO : 0 ≤ cmpN y x ↔ x ≤ y := by unfold cmpN; split <;> (try split) <;> omega
 rcases h5 with rfl | rfl
 all_goals
  ((try simp only [num]); refine ev ?_; try exact ⟨⟩)
  refine callF_of hdv ?_
  ((try simp only [num]); refine ev ?_; try exact ⟨⟩)
  refine callF_of hpl ?_
  ((try simp only [num]); refine ev ?_; try exact ⟨⟩)
  refine callF_of hd2 ?_
  ((try simp only [num]); refine ev ?_; try exact ⟨⟩)
  refine callF_of hor ?_
  ((try simp only [num]); refine ev ?_; try exact ⟨⟩)
  refine ⟨fun h6 => ?_, fun h6 => ?_⟩
  ·have h7 := hen (cO.1 h6)
   refine callF_of hcl ?_
   ((try simp only [num]); refine ev ?_; try exact ⟨⟩)
   rw [h7]
   simp [resD_two, rvD, lk, D.plain, D.isPure, optAll]
   done
  ·have h7 : ¬x ≤ y := fun h => h6 (cO.2 h)
   have lx := pcs_len_mono (show y ≤ x by omega)
   refine ⟨⟨y, num y, .inl rfl, hpo, hup, by omega, rfl⟩, ?_⟩
   rw [ints_back, ints_back, pcs_vl, pcs_vl]; omega
end Go.Proofs

/-
 SURD: terms as cells, roots, alike, over. Own work.
-/
namespace Go.Ar
/-- a square -/
def isq (n : Nat) : Prop := nrt n * nrt n = n
instance (n : Nat) : Decidable (isq n) := inferInstanceAs (Decidable (nrt n * nrt n = n))
theorem isq_sq (r : Nat) : isq (r * r) := by unfold isq; rw [nrt_sq]
/-- the first place with a property -/
def ixA {α : Type} (p : α → Bool) : List α → Nat → Int
 | [], _ => -1
 | a :: l, k => if p a then (k : Int) else ixA p l (k + 1)
theorem ixA_any {α : Type} {p : α → Bool} : ∀ {l : List α} {k : Nat}, (0 ≤ ixA p l k) ↔ l.any p = true
 | [], k => by simp [ixA]
 | a :: l, k => by
   have ih := ixA_any (p := p) (l := l) (k := k + 1)
   simp only [ixA, List.any_cons, Bool.or_eq_true]
   split
   ·rename_i h; exact ⟨fun _ => .inl h, fun _ => by omega⟩
   ·rename_i h; rw [ih]; exact ⟨.inr, fun h2 => h2.resolve_left h⟩
end Go.Ar
namespace Go.Proofs
open Go Go.Pi Go.RowKit Go.Ar

theorem dropc {α : Type} {l : List α} {k : Nat} {x : α} (h : l[k]? = some x) : l.drop k = x :: l.drop (k + 1) := by
 obtain ⟨h1, rfl⟩ := List.getElem?_eq_some_iff.1 h
 exact List.drop_eq_getElem_cons h1
/-- a term: its factor and its radicand -/
abbrev Tm := Rat × Nat
def tD (x : Tm) : List D := [.str (rt x.1), .str (tz (x.2 : Int))]
abbrev tms (l : List Tm) : List D := rows tD l
theorem tD_len (x : Tm) : (tD x).length = 2 := rfl
theorem ldC_tms {l : List Tm} {k t : Nat} {N : EP} {E : Env} : ldC true 2 (List.take 2 (List.drop (k * 2) (tms l))) t N E = (∃ x, l[k]? = some x ∧ N (st1 E t (.agg (tD x)))) := by
 unfold ldC
 cases h : l[k]? with
 | none =>
   have hk : l.length ≤ k := by simpa using h
   have e : List.take 2 (List.drop (k * 2) (tms l)) = [] := by rw [List.drop_eq_nil_of_le (by rw [rows_length tD_len]; omega)]; rfl
   rw [e]; simp [ofCells]
 | some x =>
   obtain ⟨r, e⟩ := rows_at tD_len h
   have e2 : List.take 2 (List.drop (k * 2) (tms l)) = tD x := by rw [e]; rfl
   rw [e2]
   simp [ofCells, tD]

theorem dl_nrt (n : Nat) : dl ((nrt n : Nat) : Int) ≤ dl (n : Int) := dl_mono (by have := nrt_le n; omega)
theorem tz_eq_iff (x y : Int) : (tz x = tz y) = (x = y) := propext ⟨fun h => tz_inj h, fun h => by rw [h]⟩

theorem Tryz.sroot (n : Nat) (h : dl (n : Int) ≤ 20000) : Con Tryz.prog Tryz.L 126 [.str (tz (n : Int))] (.tup [.str (tz (nrt n : Int)), .bool (dB (isq n))]) := by
 have l1 := dl_nrt n
 refine rule126 Tryz.hL rfl rfl rfl ?_
 (simp only [pc126, rs126, oU, oC]; refine ev ?_; try exact ⟨⟩)
 refine callF_of (Tryz.root n (by omega)) ?_
 (refine ev ?_; try exact ⟨⟩)
 refine callF_of (Tryz.mul (nrt n) (nrt n) (by omega) (by omega)) ?_
 (refine ev ?_; try exact ⟨⟩)
 rw [show dB (tz ((nrt n : Int) * (nrt n : Int)) = tz (n : Int)) = dB (isq n) by rw [tz_eq_iff]; unfold isq; rw [← Int.natCast_mul]; congr 1; exact propext ⟨fun h => by omega, fun h => by omega⟩]
 simp [resD_two, rvD, lk, D.plain, D.isPure, optAll]

theorem Tryz.salike (m n : Nat) (hm : dl (m : Int) ≤ 9000) (hn : dl (n : Int) ≤ 9000) : Con Tryz.prog Tryz.L 178 [.str (tz (m : Int)), .str (tz (n : Int))] (.tup [.str (tz (nrt (m * n) : Int)), .bool (dB (isq (m * n)))]) := by
 have l1 := dl_mul m n
 refine rule178 Tryz.hL rfl rfl rfl ?_
 (simp only [pc178, rs178, oU, oC]; refine ev ?_; try exact ⟨⟩)
 refine ⟨fun h => ?_, fun h => ?_⟩
 ·have e : m = n := by have := tz_inj h; omega
  subst e
  rw [dB_t (isq_sq m), nrt_sq]
  simp [resD_two, rvD, lk, D.plain, D.isPure, optAll]
 ·refine callF_of (Tryz.mul m n (by omega) (by omega)) ?_
  (refine ev ?_; try exact ⟨⟩)
  refine callF_of (Tryz.sroot (m * n) (by rw [Int.natCast_mul]; omega)) ?_
  (refine ev ?_; try exact ⟨⟩)
  simp [resD_two, rvD, lk, D.plain, D.isPure, optAll]

theorem Tryz.over (n : Int) (d : Nat) (hd : 0 < d) (h1 : dl n ≤ 20000) (h2 : dl (d : Int) ≤ 20000) : Con Tryz.prog Tryz.L 128 [.str (tz n), .str (tz (d : Int))] (.str (rt (mkRat n d))) := by
 refine rule128 Tryz.hL rfl rfl rfl ?_
 (simp only [pc128, rs128, oU, oC]; refine ev ?_; try exact ⟨⟩)
 refine callF_of (Tryz.rnew n d hd h1 h2) ?_
 (refine ev ?_; try exact ⟨⟩)

theorem Tryz.sindex {f : Nat} {caps : List D} (p : Tm → Bool) (l : List Tm) (hl : l.length ≤ 1000) (h : ∀ x ∈ l, Con Tryz.prog Tryz.L f ([.agg (tD x)] ++ caps) (.bool (p x))) :
  Con Tryz.prog Tryz.L 214 [.sl l.length (tms l), .clo f caps] (.int .i64 (ixA p l 0)) := by
 refine rule214 Tryz.hL rfl rfl rfl ?_
 (simp only [pc214, rs214, oU, oC]; refine ev ?_; try exact ⟨⟩)
 refine loopF_of (fun E => ∃ k : Nat, k ≤ l.length ∧ ixA p l 0 = ixA p (l.drop k) k ∧ E = [(0, .sl l.length (tms l)), (1, .clo f caps), (7, .int .i64 l.length), (8, .int .i64 k)])
  (fun E => match lk E 8 with | .int _ i => l.length - i.toNat | _ => 0) ⟨0, Nat.zero_le _, rfl, rfl⟩ ?_
 rintro _ ⟨k, hk, hi, rfl⟩
 (refine ev ?_; repeat (simp only [ldC_tms]; try refine ev ?_); try exact ⟨⟩)
 refine ⟨fun h1 => ?_, fun h1 => ?_⟩
 ·have hx : l[k]? = some (l[k]'(by omega)) := List.getElem?_eq_getElem (by omega)
  generalize l[k]'(by omega) = x at hx
  have hd := dropc hx
  refine ⟨⟨by omega, by rw [rows_length tD_len]; omega⟩, x, hx, ?_⟩
  refine callF_of (h x (List.mem_of_getElem? hx)) ?_
  (refine ev ?_; try exact ⟨⟩)
  rw [hd] at hi
  simp only [ixA] at hi
  cases hp : p x with
  | true =>
    (refine ev ?_; try exact ⟨⟩)
    rw [hi, hp]; rfl
  | false =>
    (refine ev ?_; try exact ⟨⟩)
    have hi2 : ixA p l 0 = ixA p (l.drop (k + 1)) (k + 1) := by rw [hi, hp]; rfl
    refine ⟨by omega, ⟨k + 1, by omega, hi2, rfl⟩, by omega⟩
 ·have : k = l.length := by omega
  subst this
  rw [hi]; simp [ixA]

theorem Tryz.scontains {f : Nat} {caps : List D} (p : Tm → Bool) (l : List Tm) (hl : l.length ≤ 1000) (h : ∀ x ∈ l, Con Tryz.prog Tryz.L f ([.agg (tD x)] ++ caps) (.bool (p x))) :
  Con Tryz.prog Tryz.L 170 [.sl l.length (tms l), .clo f caps] (.bool (l.any p)) := by
 refine rule170 Tryz.hL rfl rfl rfl ?_
 (simp only [pc170, rs170, oU, oC]; refine ev ?_; try exact ⟨⟩)
 refine callF_of (Tryz.sindex p l hl h) ?_
 (refine ev ?_; try exact ⟨⟩)
 rw [show dB (0 ≤ ixA p l 0) = l.any p by
  cases h2 : l.any p with
  | true => exact dB_iff.2 (ixA_any.2 h2)
  | false => exact dB_not.2 (fun h3 => by rw [ixA_any.1 h3] at h2; cases h2)]
end Go.Proofs

/-
 SURD: result, From, Of. Own work.
-/
namespace Go.Proofs
open Go Go.Pi Go.RowKit Go.Ar

abbrev sg (l : List Tm) : D := .sl l.length (tms l)
theorem tms_at {l : List Tm} {k : Nat} {x : Tm} (h : l[k]? = some x) : List.take 2 (List.drop (k * 2) (tms l)) = tD x := by
 obtain ⟨r, e⟩ := rows_at tD_len h
 rw [e]; rfl
/-- is a term too long? -/
def bigT (x : Tm) : Bool := decide (200 < rd x.1) || decide (200 < dl (x.2 : Int))
theorem chk_rt (q : Rat) : chk (okR (rt q)) = if rd q ≤ 200 then 0 else 2 := by
 split
 ·rename_i h; exact chk_t ((okR_rt q).2 h)
 ·rename_i h; exact chk_f (fun h2 => h ((okR_rt q).1 h2))
theorem Tryz.result1 (x : Tm) (h1 : rd x.1 ≤ 1000) (h2 : dl (x.2 : Int) ≤ 1000) : Con Tryz.prog Tryz.L 171 ([.agg (tD x)] ++ []) (.bool (bigT x)) := by
 have l1 := rt_len x.1
 have hr := Tryz.rcheck (rt x.1) (by omega)
 rw [chk_rt] at hr
 have hi := Tryz.icheckZ (x.2 : Int) h2
 unfold bigT
 refine rule171 Tryz.hL rfl rfl rfl ?_
 (try simp only [pc171, rs171, oU, oC, tD, List.append_nil]; refine ev ?_; try exact ⟨⟩)
 refine callF_of hr ?_
 (refine ev ?_; try exact ⟨⟩)
 refine ⟨fun h3 => ?_, fun h3 => ?_⟩
 ·have h4 : rd x.1 ≤ 200 := by
   rcases Nat.lt_or_ge 200 (rd x.1) with h | h
   ·rw [if_neg (by omega)] at h3; exact absurd h3 (by decide)
   ·exact h
  rw [if_pos h4]
  refine callF_of hi ?_
  (refine ev ?_; try exact ⟨⟩)
  rw [show decide (200 < rd x.1) = false from decide_eq_false (by omega), Bool.false_or]
  by_cases h5 : dl (x.2 : Int) ≤ 200
  ·rw [if_pos h5, show decide (200 < dl (x.2 : Int)) = false from decide_eq_false (by omega), dB_f (by decide)]
  ·rw [if_neg h5, show decide (200 < dl (x.2 : Int)) = true from decide_eq_true (by omega), dB_t (by decide)]
 ·have h4 : ¬rd x.1 ≤ 200 := fun h => h3 (if_pos h)
  rw [show decide (200 < rd x.1) = true from decide_eq_true (by omega), Bool.true_or]

theorem Tryz.result_ok (l : List Tm) (hl : l.length ≤ 40) (h : ∀ x ∈ l, rd x.1 ≤ 200 ∧ dl (x.2 : Int) ≤ 200) : Con Tryz.prog Tryz.L 129 [sg l] (.tup [sg l, .int .i64 0]) := by
 refine rule129 Tryz.hL rfl rfl rfl ?_
 (simp only [pc129, rs129, oU, oC]; refine ev ?_; try exact ⟨⟩)
 refine ⟨fun _ => ?_, fun h1 => absurd h1 (by omega)⟩
 have hf : l.any bigT = false := by
  rw [List.any_eq_false]
  intro x hx
  obtain ⟨a, b⟩ := h x hx
  unfold bigT
  rw [show decide (200 < rd x.1) = false from decide_eq_false (by omega), show decide (200 < dl (x.2 : Int)) = false from decide_eq_false (by omega)]; decide
 have hc := Tryz.scontains bigT l (by omega) (fun x hx => Tryz.result1 x (by have := h x hx; omega) (by have := h x hx; omega))
 rw [hf] at hc
 refine callF_of hc ?_
 (refine ev ?_; try exact ⟨⟩)
 simp [resD_two, rvD, lk, D.plain, D.isPure, optAll]
theorem Tryz.result_big (l : List Tm) (hl : l.length ≤ 1000) (h : ∀ x ∈ l, rd x.1 ≤ 1000 ∧ dl (x.2 : Int) ≤ 1000) (hb : l.any bigT = true) : Con Tryz.prog Tryz.L 129 [sg l] (.tup [.sl 0 [], .int .i64 4]) := by
 refine rule129 Tryz.hL rfl rfl rfl ?_
 (simp only [pc129, rs129, oU, oC]; refine ev ?_; try exact ⟨⟩)
 have hc := Tryz.scontains bigT l hl (fun x hx => Tryz.result1 x (h x hx).1 (h x hx).2)
 rw [hb] at hc
 refine ⟨fun h1 => ?_, fun h1 => ?_⟩
 ·refine callF_of hc ?_
  (refine ev ?_; try exact ⟨⟩)
  simp [resD_two, rvD, lk, D.plain, D.isPure, optAll]
 ·simp [resD_two, rvD, lk, D.plain, D.isPure, optAll]

theorem Tryz.from (q : Rat) (hq : rd q ≤ 200) (h0 : q ≠ 0) : Con Tryz.prog Tryz.L 127 [.str (rt q)] (.tup [sg [(q, 1)], .int .i64 0]) := by
 refine rule127 Tryz.hL rfl rfl rfl ?_
 (simp only [pc127, rs127, oU, oC]; refine ev ?_; try exact ⟨⟩)
 refine callF_of (Tryz.rcheckQ q hq) ?_
 (refine ev ?_; try exact ⟨⟩)
 rw [rt_zero]
 refine ⟨fun h1 => absurd h1 h0, fun _ => ?_⟩
 simp [resD_two, rvD, lk, D.plain, D.isPure, optAll, rows, tD, (tz_one (z := 1)).2 rfl]

/-- the answer of Of at a right number -/
def ofL (q : Rat) : List Tm := if isq (q.num.natAbs * q.den) then [(mkRat (nrt (q.num.natAbs * q.den)) q.den, 1)] else [(mkRat 1 q.den, q.num.natAbs * q.den)]
def ofD (q : Rat) : D := if q.num < 0 then .tup [.sl 0 [], .int .i64 3] else if q = 0 then .tup [.sl 0 [], .int .i64 0]
 else if ¬isq (q.num.natAbs * q.den) ∧ 200 < dl ((q.num.natAbs * q.den : Nat) : Int) then .tup [.sl 0 [], .int .i64 4] else .tup [sg (ofL q), .int .i64 0]

theorem nrt_lt {m k : Nat} (h : m < 10 ^ (k + k)) : nrt m < 10 ^ k := by
 have h1 := (nrt_spec m).1
 rcases Nat.lt_or_ge (nrt m) (10 ^ k) with h3 | h3
 ·exact h3
 ·have h4 := Nat.mul_le_mul h3 h3
  rw [← Nat.pow_add] at h4
  exact absurd (Nat.lt_of_lt_of_le h (Nat.le_trans h4 h1)) (Nat.lt_irrefl _)
theorem nrt_rd {m d k : Nat} (hk : 0 < k) (hd : d ≠ 0) (h : (dd d).length ≤ k) (hm : dl (m : Int) ≤ k + k) : rd (mkRat (nrt m) d) ≤ k := by
 refine rd_mk hd ?_ h
 refine dd_len_le hk ?_
 rw [Int.natAbs_natCast]
 exact nrt_lt (Nat.lt_of_lt_of_le (dd_lt m) (Nat.pow_le_pow_right (by decide) hm))

theorem Tryz.of' (q : Rat) (hq : rd q ≤ 200) : Con Tryz.prog Tryz.L 78 [.str (rt q)] (ofD q) := by
 have hn := rd_num q
 have hd := rd_den q
 have hd0 : q.den ≠ 0 := q.den_nz
 have hdd : dl (q.den : Int) ≤ 200 := by rw [dl_nat]; omega
 refine rule78 Tryz.hL (by unfold ofD; (repeat' split) <;> rfl) rfl rfl ?_
 (simp only [pc78, rs78, oU, oC]; refine ev ?_; try exact ⟨⟩)
 refine callF_of (Tryz.rcheckQ q hq) ?_
 (refine ev ?_; try exact ⟨⟩)
 refine callF_of (Tryz.rsign q (by omega)) ?_
 (refine ev ?_; try exact ⟨⟩)
 rw [rt_zero]
 unfold ofD
 refine ⟨fun h1 => ?_, fun h1 => ⟨fun h2 => ?_, fun h2 => ?_⟩⟩
 ·rw [if_pos (Int.sign_eq_neg_one_iff_neg.1 (by rcases Int.sign_trichotomy q.num with h | h | h <;> omega))]
  simp [resD_two, rvD, lk, D.plain, D.isPure, optAll]
 ·subst h2
  simp [resD_two, rvD, lk, D.plain, D.isPure, optAll]
 have hnn : ¬q.num < 0 := fun h => by rw [Int.sign_eq_neg_one_iff_neg.2 h] at h1; exact h1 (by decide)
 have hn0 : q.num ≠ 0 := fun h => h2 ((sign_num q).2.1.1 h)
 rw [if_neg hnn, if_neg h2]
 have en : q.num = (q.num.natAbs : Int) := by omega
 have hm := Tryz.mul q.num q.den (by omega) (by omega)
 have hml := dl_mul q.num q.den
 rw [en, ← Int.natCast_mul, ← en] at hm
 rw [en, ← Int.natCast_mul, ← en] at hml
 refine callF_of (Tryz.rparts q (by omega)) ?_
 (refine ev ?_; try exact ⟨⟩)
 refine callF_of hm ?_
 (refine ev ?_; try exact ⟨⟩)
 have hmp : 0 < q.num.natAbs * q.den := Nat.mul_pos (by omega) q.den_pos
 have hnr := nrt_rd (m := q.num.natAbs * q.den) (k := 200) (by decide) hd0 (by omega) (by omega)
 have hov := Tryz.over (nrt (q.num.natAbs * q.den)) q.den q.den_pos (by have := dl_nrt (q.num.natAbs * q.den); omega) (by omega)
 have hn1 := dl_nrt (q.num.natAbs * q.den)
 have hrt := Tryz.sroot (q.num.natAbs * q.den) (by omega)
 have ho1 := Tryz.over 1 q.den q.den_pos (by rw [dl_one]; decide) (by omega)
 rw [(tz_one).2 rfl] at ho1
 have hr1 : rd (mkRat 1 q.den) ≤ 200 := rd_mk hd0 (by rw [dl_one]; decide) (by omega)
 have hrn : mkRat (nrt (q.num.natAbs * q.den)) q.den ≠ 0 := by
  intro h
  have := (Rat.mkRat_eq_zero hd0).1 h
  have h3 : nrt (q.num.natAbs * q.den) = 0 := by omega
  rw [nrt_zero] at h3; omega
 have hfr := Tryz.from _ hnr hrn
 unfold ofL
 generalize q.num.natAbs * q.den = m at *
 refine callF_of hrt ?_
 (refine ev ?_; try exact ⟨⟩)
 refine ⟨fun h3 => ?_, fun h3 => ?_⟩
 ·refine callF_of hov ?_
  (refine ev ?_; try exact ⟨⟩)
  refine callF_of hfr ?_
  (refine ev ?_; try exact ⟨⟩)
  rw [if_neg (fun h => h.1 h3), if_pos h3]
  simp [resD_two, rvD, lk, D.plain, D.isPure, optAll]
 ·refine callF_of ho1 ?_
  (refine ev ?_; try exact ⟨⟩)
  rw [if_neg h3]
  by_cases h4 : 200 < dl (m : Int)
  ·have hb := Tryz.result_big [(mkRat 1 q.den, m)] (by simp) (fun x hx => by rw [List.mem_singleton.1 hx]; exact ⟨by show rd (mkRat 1 q.den) ≤ 1000; omega, by show dl (m : Int) ≤ 1000; omega⟩) (by simp [bigT, h4])
   rw [if_pos ⟨h3, h4⟩]
   refine callF_of hb ?_
   (refine ev ?_; try exact ⟨⟩)
   simp [resD_two, rvD, lk, D.plain, D.isPure, optAll]
  ·have hb := Tryz.result_ok [(mkRat 1 q.den, m)] (by simp) (fun x hx => by rw [List.mem_singleton.1 hx]; exact ⟨by show rd (mkRat 1 q.den) ≤ 200; omega, by show dl (m : Int) ≤ 200; omega⟩)
   rw [if_neg (fun h => h4 h.2)]
   refine callF_of hb ?_
   (refine ev ?_; try exact ⟨⟩)
   simp [resD_two, rvD, lk, D.plain, D.isPure, optAll]
end Go.Proofs

/-
 SURD: Check of a right surd. Own work.
-/
namespace Go.Proofs
open Go Go.Pi Go.RowKit Go.Ar

theorem dB_dec (p : Prop) [Decidable p] : dB p = decide p := by
 by_cases h : p
 ·rw [dB_t h, decide_eq_true h]
 ·rw [dB_f h, decide_eq_false h]
def tOk (x : Tm) : Prop := x.1 ≠ 0 ∧ rd x.1 ≤ 200 ∧ 0 < x.2 ∧ dl (x.2 : Int) ≤ 200 ∧ (isq x.2 → x.2 = 1)
structure SOk (l : List Tm) : Prop where
 len : l.length ≤ 40
 ok : ∀ x ∈ l, tOk x
 sep : ∀ (i j : Nat) (x y : Tm), i < j → l[i]? = some x → l[j]? = some y → x.2 < y.2 ∧ ¬isq (x.2 * y.2)

theorem Tryz.check1 (u t : Tm) (h1 : dl (u.2 : Int) ≤ 9000) (h2 : dl (t.2 : Int) ≤ 9000) : Con Tryz.prog Tryz.L 177 ([.agg (tD u)] ++ [.pt (tD t)]) (.bool (decide (isq (u.2 * t.2)))) := by
 refine rule177 Tryz.hL rfl rfl rfl ?_
 (try simp only [pc177, rs177, oU, oC, tD, List.cons_append, List.nil_append]; refine ev ?_; try exact ⟨⟩)
 refine callF_of (Tryz.salike u.2 t.2 h1 h2) ?_
 (refine ev ?_; try exact ⟨⟩)
 rw [dB_dec]

set_option maxHeartbeats 4000000 in
theorem Tryz.check (l : List Tm) (h : SOk l) : Con Tryz.prog Tryz.L 133 [sg l] (.int .i64 0) := by
 have hl := h.len
 refine rule133 Tryz.hL rfl rfl rfl ?_
 (simp only [pc133, rs133, oU, oC]; refine ev ?_; try exact ⟨⟩)
 refine ⟨fun h1 => absurd h1 (by omega), fun _ => ?_⟩
 refine loopF_of (fun E => ∃ k : Nat, k ≤ l.length ∧ E = [(0, sg l), (10, sg l), (11, .int .i64 l.length), (12, .int .i64 k)])
  (fun E => match lk E 12 with | .int _ i => l.length - i.toNat | _ => 0) ⟨0, Nat.zero_le _, rfl⟩ ?_
 rintro _ ⟨k, hk, rfl⟩
 (refine ev ?_; try exact ⟨⟩)
 intro h3
 have hx : l[k]? = some (l[k]'(by omega)) := List.getElem?_eq_getElem (by omega)
 generalize l[k]'(by omega) = x at hx
 obtain ⟨a1, a2, a3, a4, a5⟩ := h.ok x (List.mem_of_getElem? hx)
 have hlt := rt_len x.1
 refine ⟨⟨by omega, by omega, by rw [rows_length tD_len]; omega⟩, ?_⟩
 rw [tms_at hx]
 (try simp only [tD]; refine ev ?_; try exact ⟨⟩)
 refine callF_of (Tryz.rcheckQ x.1 a2) ?_
 (refine ev ?_; try exact ⟨⟩)
 rw [rt_zero]
 refine ⟨fun h4 => absurd h4 a1, fun _ => ?_⟩
 have hic := Tryz.icheckZ (x.2 : Int) (by omega)
 rw [if_pos a4] at hic
 refine callF_of hic ?_
 (refine ev ?_; try exact ⟨⟩)
 refine callF_of (Tryz.sign (x.2 : Int) (by rw [dd_tz]; have := dl_nat x.2; omega)) ?_
 (refine ev ?_; try exact ⟨⟩)
 rw [Int.sign_eq_one_of_pos (show (0 : Int) < x.2 by omega)]
 refine ⟨fun h4 => absurd h4 (by decide), fun _ => ?_⟩
 have hkl : (l.take k).length = k := by rw [List.length_take]; omega
 have hct := Tryz.scontains (f := 177) (caps := [.pt (tD x)]) (fun u => decide (isq (u.2 * x.2))) (l.take k) (by omega) (fun u hu => by
  obtain ⟨i, hi, hu2⟩ := List.mem_iff_getElem.1 hu
  have hu3 : l[i]? = some u := by
   have := List.getElem?_eq_getElem hi
   rw [hu2, List.getElem?_take] at this
   rw [if_pos (by omega)] at this; exact this
  exact Tryz.check1 u x (by have := (h.ok u (List.mem_of_getElem? hu3)).2.2.2.1; omega) (by omega))
 have hany : ((l.take k).any fun u => decide (isq (u.2 * x.2))) = false := by
  rw [List.any_eq_false]
  intro u hu
  obtain ⟨i, hi, hu2⟩ := List.mem_iff_getElem.1 hu
  have hu3 : l[i]? = some u := by
   have := List.getElem?_eq_getElem hi
   rw [hu2, List.getElem?_take] at this
   rw [if_pos (by omega)] at this; exact this
  have := (h.sep i k u x (by omega) hu3 hx).2
  simpa using this
 rw [hany, hkl, show tms (l.take k) = Go.Pi.cut 2 0 k (tms l) by rw [cut_rows tD_len, List.drop_zero]] at hct
 simp only [tD] at hct
 have hrl := rows_length tD_len l
 refine callF_of (Tryz.sroot x.2 (by omega)) ?_
 (refine ev ?_; try exact ⟨⟩)
 rw [tz_one]
 refine ⟨fun b1 => ⟨fun b2 => absurd (by have := a5 b1; omega) b2, fun b2 => ?_⟩, fun b1 => ?_⟩
 all_goals
  refine ⟨fun h4 => ?_, fun h4 => ?_⟩
  ·have hy : l[k - 1]? = some (l[k - 1]'(by omega)) := List.getElem?_eq_getElem (by omega)
   generalize l[k - 1]'(by omega) = y at hy
   have hyo := (h.ok y (List.mem_of_getElem? hy)).2.2.2.1
   have hlt := (h.sep (k - 1) k y x (by omega) hy hx).1
   refine ⟨by omega, ⟨by omega, by omega, by rw [hrl]; omega⟩, ?_⟩
   rw [show ((k : Int) - 1).toNat = k - 1 by omega, tms_at hy]
   (try simp only [tD]; refine ev ?_; try exact ⟨⟩)
   refine callF_of (Tryz.compare (y.2 : Int) (x.2 : Int) (by omega) (by omega)) ?_
   (refine ev ?_; try exact ⟨⟩)
   rw [cmpZ_lt (by omega)]
   refine ⟨fun h5 => absurd h5 (by decide), fun _ => ⟨by omega, by omega, by omega, hrl.symm, ?_⟩⟩
   refine callF_of hct ?_
   (refine ev ?_; try exact ⟨⟩)
   exact ⟨by omega, ⟨k + 1, by omega, by simp⟩, by omega⟩
  ·refine ⟨by omega, by omega, by omega, hrl.symm, ?_⟩
   refine callF_of hct ?_
   (refine ev ?_; try exact ⟨⟩)
   exact ⟨by omega, ⟨k + 1, by omega, by simp⟩, by omega⟩
end Go.Proofs

/-
 ARITHMETIC: integer.Abs, Power by squares. Own work.
-/
namespace Go.Ar
end Go.Ar
namespace Go.Proofs
open Go Go.Pi Go.RowKit Go.Ar

theorem Tryz.iabs (z : Int) (hz : (tz z).length ≤ 1000000) : Con Tryz.prog Tryz.L 179 [.str (tz z)] (.str (tz (z.natAbs : Int))) := by
 refine rule179 Tryz.hL rfl rfl rfl ?_
 (simp only [pc179, rs179, oU, oC]; refine ev ?_; try exact ⟨⟩)
 refine callF_of (Tryz.sTrimDash (tz z) (by omega)) ?_
 (refine ev ?_; try exact ⟨⟩)
 rw [unDash_tz, tz_nat, if_neg (by omega)]; rfl

end Go.Proofs

/-
 ARITHMETIC: klipperef01.Power, Root. Own work.
-/
namespace Go.Proofs
open Go Go.Pi Go.RowKit Go.Ar

end Go.Proofs

/-
 SURD: Text by hand (strings.Builder). Own work. UNDER WAY.
-/
namespace Go.Proofs
open Go Go.Pi Go.RowKit Go.Shelf Go.Ar
attribute [local go_sem] Oper.semAt_some

/-- the text of a term -/
def termT (first : Bool) (x : Tm) : List UInt8 :=
 (if x.1 < 0 then (if first then [45] else [32, 45, 32]) else (if first then [] else [32, 43, 32])) ++
 (if x.2 = 1 then rt (absQ x.1) else if absQ x.1 = 1 then [115, 113, 114, 116, 40] ++ tz (x.2 : Int) ++ [41] else rt (absQ x.1) ++ [32, 115, 113, 114, 116, 40] ++ tz (x.2 : Int) ++ [41])
def sumT : Bool → List Tm → List UInt8
 | _, [] => []
 | b, x :: l => termT b x ++ sumT false l

theorem below_heap {W W' : World} (hb : Below W.heap.size W W') {k : Nat} {o : Obj} (ho : W.heap[k]? = some o) : W'.heap[k]? = some o := by
 rw [hb.block k (Array.getElem?_eq_some_iff.1 ho).1]; exact ho
end Go.Proofs

/-
 SURD: klipperef03: Square, Make, Parts, Of, Same; the law's plain. Own work.
-/
namespace Go.Proofs
open Go Go.Pi Go.RowKit Go.Ar

end Go.Proofs

/-
 SURD: klipperef03: Parts, Of. Own work.
-/
namespace Go.Proofs
open Go Go.Pi Go.RowKit Go.Ar

end Go.Proofs

/-
 SURD: klipperef03: Plus, Times, Alike, insert, Join. Own work.
-/
namespace Go.Proofs
open Go Go.Pi Go.RowKit Go.Ar

/-- a term put into its place -/
def insM (x : Tm) : List Tm → List Tm
 | [] => [x]
 | y :: l => if x.2 < y.2 then x :: y :: l else y :: insM x l
def isIn (x : Tm) (l : List Tm) : Bool := l.any fun y => decide (x.2 < y.2)
theorem insM_len (x : Tm) : ∀ l, (insM x l).length = l.length + 1
 | [] => rfl
 | y :: l => by unfold insM; split <;> simp [insM_len x l]
theorem take_snoc {α : Type} {l : List α} {k : Nat} {x : α} (h : l[k]? = some x) : l.take (k + 1) = l.take k ++ [x] := by rw [List.take_add_one, h]; rfl

end Go.Proofs

/-
 SURD: klipperef03.Join. Own work.
-/
namespace Go.Proofs
open Go Go.Pi Go.RowKit Go.Ar

/-- the least radicand that is alike, the sum of the factors, the sum of surds -/
def leastM (all : List Tm) (r : Nat) : Nat := all.foldl (fun m x => if isq (x.2 * r) ∧ x.2 < m then x.2 else m) r
def sumM (all : List Tm) (m : Nat) : Rat := all.foldl (fun s x => if isq (x.2 * m) then s + x.1 * mkRat (nrt (x.2 * m)) m else s) 0
def freshIn (pre : List Tm) (r : Nat) : Bool := pre.all fun y => !decide (isq (y.2 * r))
def joinS (all pre out : List Tm) (x : Tm) : List Tm := if freshIn pre x.2 = false then out else if sumM all (leastM all x.2) = 0 then out else insM (sumM all (leastM all x.2), leastM all x.2) out
def joinT (all : List Tm) : Nat → List Tm
 | 0 => []
 | i + 1 => match all[i]? with
   | some x => joinS all (all.take i) (joinT all i) x
   | none => joinT all i
def joinL (all : List Tm) : List Tm := joinT all all.length
def mulT (k : Rat) (b : List Tm) : List Tm := b.map fun x => (x.1 * k, x.2)

theorem tms_drop {l : List Tm} {k : Nat} {x : Tm} (h : l[k]? = some x) : ∃ r, List.drop (k * 2) (tms l) = .str (rt x.1) :: .str (tz (x.2 : Int)) :: r ∧ List.drop (k * 2 + 1) (tms l) = .str (tz (x.2 : Int)) :: r := by
 obtain ⟨r, e⟩ := rows_at tD_len h
 exact ⟨r, e, by rw [← List.drop_drop, e]; rfl⟩
theorem sumM_snoc (l : List Tm) (x : Tm) (m : Nat) : sumM (l ++ [x]) m = if isq (x.2 * m) then sumM l m + x.1 * mkRat (nrt (x.2 * m)) m else sumM l m := by unfold sumM; rw [List.foldl_append]; rfl
/-- a term of a list that is joined -/
def tBd (x : Tm) : Prop := rd x.1 ≤ 450 ∧ 0 < x.2 ∧ dl (x.2 : Int) ≤ 200
theorem dl_nmul (m n : Nat) : dl ((m * n : Nat) : Int) ≤ dl (m : Int) + dl (n : Int) := by rw [Int.natCast_mul]; exact dl_mul m n
theorem rd_root {r m : Nat} (hm : 0 < m) (h1 : dl (r : Int) ≤ 200) (h2 : dl (m : Int) ≤ 200) : rd (mkRat (nrt (r * m)) m) ≤ 400 := by
 refine rd_mk (by omega) ?_ (by have := dl_nat m; omega)
 have h3 := dl_nrt (r * m)
 have h4 := dl_nmul r m
 omega
theorem joinT_len (all : List Tm) : ∀ i, (joinT all i).length ≤ i
 | 0 => Nat.le_refl _
 | i + 1 => by
   have ih := joinT_len all i
   unfold joinT
   split
   ·unfold joinS
    split
    ·omega
    ·split
     ·omega
     ·rw [insM_len]; omega
   ·omega
theorem mem_insM {x y : Tm} : ∀ {l : List Tm}, y ∈ insM x l ↔ y = x ∨ y ∈ l
 | [] => by simp [insM]
 | z :: l => by
   unfold insM
   split
   ·simp
   ·simp only [List.mem_cons, mem_insM (l := l)]
    exact ⟨fun h => h.elim (fun h => .inr (.inl h)) (fun h => h.elim .inl (fun h => .inr (.inr h))), fun h => h.elim (fun h => .inr (.inl h)) (fun h => h.elim .inl (fun h => .inr (.inr h)))⟩
theorem joinT_some {all : List Tm} {i : Nat} {x : Tm} (h : all[i]? = some x) : joinT all (i + 1) = joinS all (all.take i) (joinT all i) x := by
 show (match all[i]? with | some x => joinS all (all.take i) (joinT all i) x | none => joinT all i) = _
 rw [h]
/-- what a slot holds -/
def outD (e : Nat) (l : List Tm) : D := if l = [] then .own true e 0 [] else sg l
end Go.Proofs

/-
 SURD: add by hand (writes in the caller's own slice). Own work.
-/
namespace Go.Proofs
open Go Go.Pi Go.RowKit Go.Shelf Go.Ar

/-- the cells of a list of terms -/
def stc (x : Tm) : List Value := [.string ⟨(rt x.1).toArray⟩, .string ⟨(tz (x.2 : Int)).toArray⟩]
def tcs (l : List Tm) : List Value := l.flatMap stc
theorem tcs_len (l : List Tm) : (tcs l).length = l.length * 2 := by
 induction l with
 | nil => rfl
 | cons x l ih => show (stc x ++ tcs l).length = _; rw [List.length_append, ih, List.length_cons]; show 2 + _ = _; omega
theorem tcs_at : ∀ {l : List Tm} {k : Nat} {x : Tm}, l[k]? = some x → (tcs l)[k * 2]? = some (.string ⟨(rt x.1).toArray⟩) ∧ (tcs l)[k * 2 + 1]? = some (.string ⟨(tz (x.2 : Int)).toArray⟩)
 | y :: l, 0, x, h => by cases h; exact ⟨rfl, rfl⟩
 | y :: l, k + 1, x, h => by
   have ih := tcs_at (l := l) (k := k) (x := x) (by simpa using h)
   have e : ∀ j, (tcs (y :: l))[j + 2]? = (tcs l)[j]? := fun j => rfl
   rw [show (k + 1) * 2 = k * 2 + 2 by omega, show k * 2 + 2 + 1 = k * 2 + 1 + 2 by omega, e, e]
   exact ih
theorem tcs_set : ∀ (l : List Tm) (k : Nat) (y : Tm), k < l.length → ((tcs l).set (k * 2) (.string ⟨(rt y.1).toArray⟩)).set (k * 2 + 1) (.string ⟨(tz (y.2 : Int)).toArray⟩) = tcs (l.set k y)
 | x :: l, 0, y, h => rfl
 | x :: l, k + 1, y, h => by
   have ih := tcs_set l k y (by simpa using h)
   rw [show (k + 1) * 2 = k * 2 + 1 + 1 by omega, show k * 2 + 1 + 1 + 1 = (k * 2 + 1) + 1 + 1 by omega]
   exact congrArg (fun z => Value.string ⟨(rt x.1).toArray⟩ :: Value.string ⟨(tz (x.2 : Int)).toArray⟩ :: z) ih
theorem tcs_app (l m : List Tm) : tcs (l ++ m) = tcs l ++ tcs m := List.flatMap_append

/-- the sum of two terms whose roots are multiples of one -/
def mrg (u t : Tm) : Tm := if t.2 < u.2 then (t.1 + u.1 * mkRat (nrt (u.2 * t.2)) t.2, t.2) else (u.1 + t.1 * mkRat (nrt (u.2 * t.2)) u.2, u.2)
def addL : List Tm → Tm → List Tm
 | [], t => [t]
 | u :: s, t => if isq (u.2 * t.2) then mrg u t :: s else u :: addL s t
theorem addL_none {t : Tm} : ∀ {l : List Tm}, (∀ u ∈ l, ¬isq (u.2 * t.2)) → addL l t = l ++ [t]
 | [], _ => rfl
 | u :: s, h => by
   show (if isq (u.2 * t.2) then _ else _) = _
   rw [if_neg (h u (List.mem_cons_self ..)), addL_none fun v hv => h v (List.mem_cons_of_mem _ hv)]; rfl
theorem addL_hit {t : Tm} : ∀ {l : List Tm} {k : Nat} {u : Tm}, (∀ j v, j < k → l[j]? = some v → ¬isq (v.2 * t.2)) → l[k]? = some u → isq (u.2 * t.2) → addL l t = l.set k (mrg u t)
 | y :: l, 0, u, _, h, hq => by
   cases h
   show (if isq (y.2 * t.2) then _ else _) = _
   rw [if_pos hq]; rfl
 | y :: l, k + 1, u, hn, h, hq => by
   show (if isq (y.2 * t.2) then _ else _) = _
   rw [if_neg (hn 0 y (by omega) rfl), addL_hit (k := k) (fun j v hj hv => hn (j + 1) v (by omega) (by simpa using hv)) (by simpa using h) hq]; rfl

theorem gb_trans {a b c : World} {r : Option Nat} (h : a.grownBy b r) (h2 : b.grownBy c r) : a.grownBy c r :=
 ⟨h2.os.trans h.os, h2.tape.trans h.tape, h2.output.trans h.output, Nat.le_trans h.size h2.size, fun k hk hne => (h2.block k (Nat.lt_of_lt_of_le hk h.size) hne).trans (h.block k hk hne)⟩
theorem gb_below {a b : World} {r : Option Nat} (h : Below a.heap.size a b) : a.grownBy b r := ⟨h.os, h.tape, h.output, h.size, fun k hk _ => h.block k hk⟩
theorem gb_none {a b : World} {r : Option Nat} (h : a.grownBy b none) : a.grownBy b r := ⟨h.os, h.tape, h.output, h.size, fun k hk _ => h.block k hk (by simp)⟩

theorem alike_ret {S : Nat → Nat → Prop} {w : World} {s : List UInt8} {b : Bool} {v : Value} (h : Rep S w (.tup [.str s, .bool b]) v) : v = .tuple #[.string ⟨s.toArray⟩, .bool b] := by
 generalize hds : [D.str s, .bool b] = ds at h
 cases h with
 | tup _ vs hl' hh =>
   subst hds
   match vs, hl' with
   | [p, q], _ =>
     have h1 := hh 0 _ _ rfl rfl
     have h2 := hh 1 _ _ rfl rfl
     cases h1; cases h2; rfl
theorem gb_set {a b : World} {g j : Nat} {v : Value} (h : a.grownBy b none) (hg : a.heap.size ≤ g) : a.grownBy (b.setCell ⟨g, j, none⟩ v) none :=
 ⟨h.os, h.tape, h.output, by simpa using h.size, fun k hk hne => (heap_setCell_other b ⟨g, j, none⟩ k v (by show k ≠ g; omega)).trans (h.block k hk hne)⟩
theorem swap_x {w : World} {a b : Nat} {p q r s c d : Value} {t : TypeId} (hne : a ≠ b) (h : w.heap[b]? = some (.cells #[p, q] t (0, 0))) :
  ((((w.setCell ⟨a, 0, none⟩ r).setCell ⟨a, 1, none⟩ s).setCell ⟨b, 0, none⟩ c).setCell ⟨b, 1, none⟩ d).heap[b]? = some (.cells #[c, d] t (0, 0)) := by
 have h1 := (heap_setCell_other w ⟨a, 0, none⟩ b r (fun e => hne e.symm)).trans h
 have h2 := (heap_setCell_other _ ⟨a, 1, none⟩ b s (fun e => hne e.symm)).trans h1
 exact heap_setCell_same _ b 1 _ t d (heap_setCell_same _ b 0 _ t c h2)
theorem swap_u {w : World} {a b : Nat} {p q r s c d : Value} {t : TypeId} (hne : a ≠ b) (h : w.heap[a]? = some (.cells #[p, q] t (0, 0))) :
  ((((w.setCell ⟨a, 0, none⟩ r).setCell ⟨a, 1, none⟩ s).setCell ⟨b, 0, none⟩ c).setCell ⟨b, 1, none⟩ d).heap[a]? = some (.cells #[r, s] t (0, 0)) := by
 have h2 := heap_setCell_same _ a 1 _ t s (heap_setCell_same w a 0 _ t r h)
 have h3 := (heap_setCell_other _ ⟨b, 0, none⟩ a c (fun e => hne e)).trans h2
 exact (heap_setCell_other _ ⟨b, 1, none⟩ a d (fun e => hne e)).trans h3
theorem cells2 {W : World} {b : Nat} {p q : Value} {t : TypeId} {fr : Nat × Nat} (h : W.heap[b]? = some (.cells #[p, q] t fr)) : W.cell? ⟨b, 0, none⟩ = some p ∧ W.cell? ⟨b, 1, none⟩ = some q :=
 ⟨by rw [Lib.cell_of_heap h]; rfl, by rw [Lib.cell_of_heap h]; rfl⟩

set_option maxRecDepth 100000 in
set_option maxHeartbeats 4000000 in
theorem Tryz.sadd (w0 W : World) (v : Value) (l : List Tm) (x : Tm) (hL0 : Tryz.L w0) (hbw : Below w0.heap.size w0 W) (hown : W.ownsRow w0.heap.size 108 2 v l.length (tcs l)) (hlen : l.length ≤ 100)
  (hl : ∀ y ∈ l, rd y.1 ≤ 2000 ∧ 0 < y.2 ∧ dl (y.2 : Int) ≤ 200) (hx : rd x.1 ≤ 2000 ∧ 0 < x.2 ∧ dl (x.2 : Int) ≤ 200) :
  Calls Tryz.prog 172 #[v, .agg (stc x).toArray] W fun e W' => ∃ v', e = .returned v' ∧ W'.ownsRow w0.heap.size 108 2 v' (addL l x).length (tcs (addL l x)) ∧ W.grownBy W' v.ownBlock ∧ Below w0.heap.size w0 W' := by
 obtain ⟨x1, x2, x3⟩ := hx
 have mixed : Tryz.prog.follows .mixedOrders = true := by kernel_rfl
 have t0 := Tryz.underlying67; have a0 := Tryz.isAgg67; have z0 := Tryz.sizeOf67; have v0 := Tryz.zeroValue67; have u0 := run_underlying Tryz.underlying67
 have t1 := Tryz.underlying108; have a1 := Tryz.isAgg108; have z1 := Tryz.sizeOf108; have v1 := Tryz.zeroValue108; have u1 := run_underlying Tryz.underlying108
 have t3 := Tryz.underlying4; have a3 := Tryz.isAgg4; have z3 := Tryz.sizeOf4; have v3 := Tryz.zeroValue4; have u3 := run_underlying Tryz.underlying4
 have t4 := Tryz.underlying3; have a4 := Tryz.isAgg3; have z4 := Tryz.sizeOf3; have v4 := Tryz.zeroValue3; have u4 := run_underlying Tryz.underlying3
 have t6 := Tryz.underlying33; have a6 := Tryz.isAgg33; have z6 := Tryz.sizeOf33; have v6 := Tryz.zeroValue33; have u6 := run_underlying Tryz.underlying33
 have t7 := Tryz.underlying93; have a7 := Tryz.isAgg93; have z7 := Tryz.sizeOf93; have v7 := Tryz.zeroValue93; have u7 := run_underlying Tryz.underlying93
 have hinfo : (Tryz.prog.info? 108).map (fun i => (i.zero, i.size, i.bytes)) = some (some (.agg #[.string ⟨#[]⟩, .string ⟨#[]⟩]), 2, 32) := by kernel_rfl
 have vsl : ∃ ad cap, v = .slice ad l.length cap := by
  rcases hown.2 with ⟨h1, h2⟩ | ⟨g, cap, cur, h1, _⟩
  ·exact ⟨none, 0, by rw [h1, h2]⟩
  ·exact ⟨_, _, h1⟩
 obtain ⟨ad, cap, rfl⟩ := vsl
 show Calls _ _ #[_, .agg #[.string ⟨(rt x.1).toArray⟩, .string ⟨(tz (x.2 : Int)).toArray⟩]] _ _
 go_enter Tryz.func172, Tryz.ntmps172
 go_wp2
 have hG0 : W.grownBy (W.alloc (.cells #[.string ⟨(rt x.1).toArray⟩, .string ⟨(tz (x.2 : Int)).toArray⟩] 108)) none := World.grownBy_alloc _ _ _
 have hX0 : (W.alloc (.cells #[.string ⟨(rt x.1).toArray⟩, .string ⟨(tz (x.2 : Int)).toArray⟩] 108)).heap[W.heap.size]? = some (.cells #[.string ⟨(rt x.1).toArray⟩, .string ⟨(tz (x.2 : Int)).toArray⟩] 108 (0, 0)) := World.alloc_heap_new _ _
 generalize (W.alloc (.cells #[.string ⟨(rt x.1).toArray⟩, .string ⟨(tz (x.2 : Int)).toArray⟩] 108)) = W2 at *
 go_loopw [11] (fun i wr => ∃ k : Nat, k ≤ l.length ∧ i = .int .i64 k ∧ W.grownBy wr none ∧ wr.heap[W.heap.size]? = some (.cells #[.string ⟨(rt x.1).toArray⟩, .string ⟨(tz (x.2 : Int)).toArray⟩] 108 (0, 0)) ∧ ∀ j u, j < k → l[j]? = some u → ¬isq (u.2 * x.2)) (fun i _ => l.length - (intOf i).toNat)
 case atStart => exact ⟨0, Nat.zero_le _, rfl, hG0, hX0, fun j u hj => by omega⟩
 case round =>
  obtain ⟨k, hk, rfl, hGk, hXk, hno⟩ := hrel
  have hgs := hGk.size
  have hLW : ∀ w', W.grownBy w' none → Tryz.L w' := fun w' h => Tryz.hL w0 _ hL0 (hbw.grown h hbw.size (fun k hk => by cases hk))
  by_cases hlt : k < l.length
  ·have hex : ∃ u, l[k]? = some u := ⟨_, List.getElem?_eq_getElem hlt⟩
   obtain ⟨u, hu⟩ := hex
   obtain ⟨y1, y2, y3⟩ := hl u (List.mem_of_getElem? hu)
   have hadf : ∃ g, ad = some ⟨g, 0, none⟩ := by
    rcases hown.2 with ⟨h1, h2⟩ | ⟨g, cap, cur, h1, _⟩
    ·omega
    ·cases h1; exact ⟨g, rfl⟩
   obtain ⟨g, rfl⟩ := hadf
   have hownk := hown.kept hGk (.inr (by simp [Value.ownBlock]))
   have hg := hown.lt g rfl
   obtain ⟨cA, cB⟩ := tcs_at hu
   rw [← hownk.cellAt (k * 2) (by omega)] at cA
   rw [← hownk.cellAt (k * 2 + 1) (by omega)] at cB
   have hltX : W.heap.size < wr.heap.size := (Array.getElem?_eq_some_iff.1 hXk).1
   have hX4 : (wr.alloc (.cells #[.string ⟨(rt u.1).toArray⟩, .string ⟨(tz (u.2 : Int)).toArray⟩] 108)).heap[W.heap.size]? = some (.cells #[.string ⟨(rt x.1).toArray⟩, .string ⟨(tz (x.2 : Int)).toArray⟩] 108 (0, 0)) := (Below.heap_alloc _ _ _ hltX).trans hXk
   have hU4 : (wr.alloc (.cells #[.string ⟨(rt u.1).toArray⟩, .string ⟨(tz (u.2 : Int)).toArray⟩] 108)).heap[wr.heap.size]? = some (.cells #[.string ⟨(rt u.1).toArray⟩, .string ⟨(tz (u.2 : Int)).toArray⟩] 108 (0, 0)) := World.alloc_heap_new _ _
   have hG4 : W.grownBy (wr.alloc (.cells #[.string ⟨(rt u.1).toArray⟩, .string ⟨(tz (u.2 : Int)).toArray⟩] 108)) none := gb_trans hGk (World.grownBy_alloc _ _ _)
   have c4 : (wr.alloc (.cells #[.string ⟨(rt u.1).toArray⟩, .string ⟨(tz (u.2 : Int)).toArray⟩] 108)).cell? ⟨W.heap.size, 1, none⟩ = some (.string ⟨(tz (x.2 : Int)).toArray⟩) := by rw [Lib.cell_of_heap hX4]; rfl
   have hneX : wr.heap.size ≠ W.heap.size := by omega
   have c5 := (Tryz.salike u.2 x.2 (by omega) (by omega)).2 (fun _ _ => False) _ [.string ⟨(tz (u.2 : Int)).toArray⟩, .string ⟨(tz (x.2 : Int)).toArray⟩] (fun _ _ h => h.elim) (hLW _ hG4) (Reps.cons (.str _ (by have := tz_dl (u.2 : Int); unfold maxLen; omega)) (Reps.cons (.str _ (by have := tz_dl (x.2 : Int); unfold maxLen; omega)) .nil))
   by_cases hq : isq (u.2 * x.2)
   ·go_wp2_with (go_at_call 178; refine Calls.mono c5 ?_; rintro e W5 ⟨v, rfl, hb5, hr⟩; obtain rfl := alike_ret hr; rw [dB_t hq]; have hG5 := gb_trans hG4 (gb_below (r := none) hb5); have hX5 := below_heap hb5 hX4; have hU5 := below_heap hb5 hU4; obtain ⟨cu5, cu5'⟩ := cells2 hU5; obtain ⟨cx5, cx5'⟩ := cells2 hX5; clear hr hb5)
    have c6 := (Tryz.compare (x.2 : Int) (u.2 : Int) (by omega) (by omega)).2 (fun _ _ => False) W5 [.string ⟨(tz (x.2 : Int)).toArray⟩, .string ⟨(tz (u.2 : Int)).toArray⟩] (fun _ _ h => h.elim) (hLW _ hG5) (Reps.cons (.str _ (by have := tz_dl (x.2 : Int); unfold maxLen; omega)) (Reps.cons (.str _ (by have := tz_dl (u.2 : Int); unfold maxLen; omega)) .nil))
    refine Calls.mono c6 ?_
    rintro e W6 ⟨v, rfl, hb6, hr⟩
    obtain rfl : v = .int .i64 (cmpZ (x.2 : Int) (u.2 : Int)) := by cases hr; rfl
    clear hr c6
    have hX6 := below_heap hb6 hX5
    have hU6 := below_heap hb6 hU5
    have hG6 := gb_trans hG5 (gb_below (r := none) hb6)
    obtain ⟨cu6, cu6'⟩ := cells2 hU6
    obtain ⟨cx6, cx6'⟩ := cells2 hX6
    have fx6 := frozen_of_row W6 W.heap.size 0 _ _ hX6
    have fx6' := frozen_of_row W6 W.heap.size 1 _ _ hX6
    have fu6 := frozen_of_row W6 wr.heap.size 0 _ _ hU6
    have fu6' := frozen_of_row W6 wr.heap.size 1 _ _ hU6
    clear hb6 cx5 cx5' cu5 cu5'
    have hg1 : g ≠ wr.heap.size := by omega
    have hg2 : g ≠ W.heap.size := by omega
    have hg3 : wr.heap.size ≠ g := by omega
    have hg4 : W.heap.size ≠ g := by omega
    have i1 : (0 : Int) ≤ (k : Int) := Int.natCast_nonneg _
    have i2 : (k : Int) < (l.length : Int) := by omega
    by_cases hc : x.2 < u.2
    ·have ec : decide (cmpZ (x.2 : Int) (u.2 : Int) < 0) = true := by unfold cmpZ; simp; omega
     have hrm : rd (mkRat (nrt (u.2 * x.2)) x.2) ≤ 400 := rd_root (by omega) (by omega) (by omega)
     have hrp : rd (u.1 * mkRat (nrt (u.2 * x.2)) x.2) ≤ 2500 := by have := rd_mul u.1 (mkRat (nrt (u.2 * x.2)) x.2); omega
     go_wp2_with fail
     have hXs : ((((W6.setCell ⟨wr.heap.size, 0, none⟩ (.string ⟨(rt x.1).toArray⟩)).setCell ⟨wr.heap.size, 1, none⟩ (.string ⟨(tz (x.2 : Int)).toArray⟩)).setCell ⟨W.heap.size, 0, none⟩ (.string ⟨(rt u.1).toArray⟩)).setCell ⟨W.heap.size, 1, none⟩ (.string ⟨(tz (u.2 : Int)).toArray⟩)).heap[W.heap.size]? = some (.cells #[.string ⟨(rt u.1).toArray⟩, .string ⟨(tz (u.2 : Int)).toArray⟩] 108 (0, 0)) := swap_x hneX hX6
     have hUs : ((((W6.setCell ⟨wr.heap.size, 0, none⟩ (.string ⟨(rt x.1).toArray⟩)).setCell ⟨wr.heap.size, 1, none⟩ (.string ⟨(tz (x.2 : Int)).toArray⟩)).setCell ⟨W.heap.size, 0, none⟩ (.string ⟨(rt u.1).toArray⟩)).setCell ⟨W.heap.size, 1, none⟩ (.string ⟨(tz (u.2 : Int)).toArray⟩)).heap[wr.heap.size]? = some (.cells #[.string ⟨(rt x.1).toArray⟩, .string ⟨(tz (x.2 : Int)).toArray⟩] 108 (0, 0)) := swap_u hneX hU6
     have hGs : W.grownBy ((((W6.setCell ⟨wr.heap.size, 0, none⟩ (.string ⟨(rt x.1).toArray⟩)).setCell ⟨wr.heap.size, 1, none⟩ (.string ⟨(tz (x.2 : Int)).toArray⟩)).setCell ⟨W.heap.size, 0, none⟩ (.string ⟨(rt u.1).toArray⟩)).setCell ⟨W.heap.size, 1, none⟩ (.string ⟨(tz (u.2 : Int)).toArray⟩)) none := gb_set (gb_set (gb_set (gb_set hG6 hgs) hgs) (Nat.le_refl _)) (Nat.le_refl _)
     clear fx6 fx6' fu6 fu6' cu6 cu6' cx6 cx6'
     generalize ((((W6.setCell ⟨wr.heap.size, 0, none⟩ (.string ⟨(rt x.1).toArray⟩)).setCell ⟨wr.heap.size, 1, none⟩ (.string ⟨(tz (x.2 : Int)).toArray⟩)).setCell ⟨W.heap.size, 0, none⟩ (.string ⟨(rt u.1).toArray⟩)).setCell ⟨W.heap.size, 1, none⟩ (.string ⟨(tz (u.2 : Int)).toArray⟩)) = V at *
     have hGV : W.grownBy V.drew none := ⟨hGs.os, hGs.tape, hGs.output, hGs.size, hGs.block⟩
     have hXV : V.drew.heap[W.heap.size]? = some (.cells #[.string ⟨(rt u.1).toArray⟩, .string ⟨(tz (u.2 : Int)).toArray⟩] 108 (0, 0)) := hXs
     have hUV : V.drew.heap[wr.heap.size]? = some (.cells #[.string ⟨(rt x.1).toArray⟩, .string ⟨(tz (x.2 : Int)).toArray⟩] 108 (0, 0)) := hUs
     obtain ⟨cuV, cuV'⟩ := cells2 hUV
     obtain ⟨cxV, cxV'⟩ := cells2 hXV
     obtain ⟨cuS, cuS'⟩ := cells2 hUs
     obtain ⟨cxS, cxS'⟩ := cells2 hXs
     go_region_held3 (fun w' => w'.cell? ⟨wr.heap.size, 0, none⟩ = some (.string ⟨(rt x.1).toArray⟩) ∧ w'.cell? ⟨wr.heap.size, 1, none⟩ = some (.string ⟨(tz (x.2 : Int)).toArray⟩) ∧ w'.cell? ⟨W.heap.size, 0, none⟩ = some (.string ⟨(rt u.1).toArray⟩)) (go_keep)
      (first
       | (go_at_call 128; refine Calls.mono ((Tryz.over (nrt (u.2 * x.2) : Int) x.2 (by omega) (by have := dl_nrt (u.2 * x.2); have := dl_nmul u.2 x.2; omega) (by omega)).2 (fun _ _ => False) _ [.string ⟨(tz (nrt (u.2 * x.2) : Int)).toArray⟩, .string ⟨(tz (x.2 : Int)).toArray⟩] (fun _ _ h => h.elim) (hLW _ hGV) (Reps.cons (.str _ (by have := tz_dl (nrt (u.2 * x.2) : Int); have := dl_nrt (u.2 * x.2); have := dl_nmul u.2 x.2; unfold maxLen; omega)) (Reps.cons (.str _ (by have := tz_dl (x.2 : Int); unfold maxLen; omega)) .nil))) ?_; rintro e W7 ⟨v, rfl, hb7, hr7⟩; obtain rfl : v = .string ⟨(rt (mkRat (nrt (u.2 * x.2)) x.2)).toArray⟩ := (by cases hr7; rfl); clear hr7; have hU7 := below_heap hb7 hUV; have hX7 := below_heap hb7 hXV; have hG7 := gb_trans hGV (gb_below (r := none) hb7); obtain ⟨cu7, cu7'⟩ := cells2 hU7; obtain ⟨cx7, cx7'⟩ := cells2 hX7; clear hb7)
       | (go_at_call 55; refine Calls.mono ((Tryz.rmul u.1 (mkRat (nrt (u.2 * x.2)) x.2) (by omega) (by omega)).2 (fun _ _ => False) _ [.string ⟨(rt u.1).toArray⟩, .string ⟨(rt (mkRat (nrt (u.2 * x.2)) x.2)).toArray⟩] (fun _ _ h => h.elim) (hLW _ hG7) (Reps.cons (.str _ (by have := rt_len u.1; unfold maxLen; omega)) (Reps.cons (.str _ (by have := rt_len (mkRat (nrt (u.2 * x.2)) x.2); unfold maxLen; omega)) .nil))) ?_; rintro e W8 ⟨v, rfl, hb8, hr8⟩; obtain rfl : v = .string ⟨(rt (u.1 * mkRat (nrt (u.2 * x.2)) x.2)).toArray⟩ := (by cases hr8; rfl); clear hr8; have hU8 := below_heap hb8 hU7; have hX8 := below_heap hb8 hX7; have hG8 := gb_trans hG7 (gb_below (r := none) hb8); obtain ⟨cu8, cu8'⟩ := cells2 hU8; obtain ⟨cx8, cx8'⟩ := cells2 hX8; clear hb8)
       | (go_at_call 29; refine Calls.mono ((Tryz.radd x.1 (u.1 * mkRat (nrt (u.2 * x.2)) x.2) (by omega) (by omega)).2 (fun _ _ => False) _ [.string ⟨(rt x.1).toArray⟩, .string ⟨(rt (u.1 * mkRat (nrt (u.2 * x.2)) x.2)).toArray⟩] (fun _ _ h => h.elim) (hLW _ hG8) (Reps.cons (.str _ (by have := rt_len x.1; unfold maxLen; omega)) (Reps.cons (.str _ (by have := rt_len (u.1 * mkRat (nrt (u.2 * x.2)) x.2); unfold maxLen; omega)) .nil))) ?_; rintro e W9 ⟨v, rfl, hb9, hr9⟩; obtain rfl : v = .string ⟨(rt (x.1 + u.1 * mkRat (nrt (u.2 * x.2)) x.2)).toArray⟩ := (by cases hr9; rfl); clear hr9; have hU9 := below_heap hb9 hU8; have hX9 := below_heap hb9 hX8; have hG9 := gb_trans hG8 (gb_below (r := none) hb9); obtain ⟨cu9, cu9'⟩ := cells2 hU9; obtain ⟨cx9, cx9'⟩ := cells2 hX9; have hown9 := hown.kept hG9 (.inr (by simp [Value.ownBlock])); have f9 := hown9.frozenAt (k * 2); have f9' := hown9.frozenAt (k * 2 + 1); have d9 := (hown9.cellAt (k * 2) (by omega)).trans (tcs_at hu).1; have d9' := (hown9.cellAt (k * 2 + 1) (by omega)).trans (tcs_at hu).2; clear hb9))
     all_goals go_wp2_with fail
     all_goals go_ret
     have em : mrg u x = (x.1 + u.1 * mkRat (nrt (u.2 * x.2)) x.2, x.2) := by unfold mrg; rw [if_pos hc]
     have st1 := hown9.stored (k * 2) (.string ⟨(rt (x.1 + u.1 * mkRat (nrt (u.2 * x.2)) x.2)).toArray⟩)
     have st2 := st1.1.stored (k * 2 + 1) (.string ⟨(tz (x.2 : Int)).toArray⟩)
     have hgr := gb_trans (gb_trans (gb_none (r := some g) hG9) st1.2) st2.2
     refine ⟨.slice (some ⟨g, 0, none⟩) l.length cap, by simp, ?_, hgr, hbw.grown hgr hbw.size (fun k hk => by cases hk; exact hg.1)⟩
     rw [addL_hit hno hu hq, em, ← tcs_set l k _ hlt, List.length_set]
     exact st2.1
    ·have ec : decide (cmpZ (x.2 : Int) (u.2 : Int) < 0) = false := by unfold cmpZ; simp; omega
     have hrm : rd (mkRat (nrt (u.2 * x.2)) u.2) ≤ 400 := by rw [Nat.mul_comm]; exact rd_root (by omega) (by omega) (by omega)
     have hrp : rd (x.1 * mkRat (nrt (u.2 * x.2)) u.2) ≤ 2500 := by have := rd_mul x.1 (mkRat (nrt (u.2 * x.2)) u.2); omega
     go_wp2_with fail
     have hXs := hX6
     have hUs := hU6
     have hGs := hG6
     clear fx6 fx6' fu6 fu6' cu6 cu6' cx6 cx6'
     generalize W6 = V at *
     have hGV : W.grownBy V.drew none := ⟨hGs.os, hGs.tape, hGs.output, hGs.size, hGs.block⟩
     have hXV : V.drew.heap[W.heap.size]? = some (.cells #[.string ⟨(rt x.1).toArray⟩, .string ⟨(tz (x.2 : Int)).toArray⟩] 108 (0, 0)) := hXs
     have hUV : V.drew.heap[wr.heap.size]? = some (.cells #[.string ⟨(rt u.1).toArray⟩, .string ⟨(tz (u.2 : Int)).toArray⟩] 108 (0, 0)) := hUs
     obtain ⟨cuV, cuV'⟩ := cells2 hUV
     obtain ⟨cxV, cxV'⟩ := cells2 hXV
     obtain ⟨cuS, cuS'⟩ := cells2 hUs
     obtain ⟨cxS, cxS'⟩ := cells2 hXs
     go_region_held3 (fun w' => w'.cell? ⟨wr.heap.size, 0, none⟩ = some (.string ⟨(rt u.1).toArray⟩) ∧ w'.cell? ⟨wr.heap.size, 1, none⟩ = some (.string ⟨(tz (u.2 : Int)).toArray⟩) ∧ w'.cell? ⟨W.heap.size, 0, none⟩ = some (.string ⟨(rt x.1).toArray⟩)) (go_keep)
      (first
       | (go_at_call 128; refine Calls.mono ((Tryz.over (nrt (u.2 * x.2) : Int) u.2 (by omega) (by have := dl_nrt (u.2 * x.2); have := dl_nmul u.2 x.2; omega) (by omega)).2 (fun _ _ => False) _ [.string ⟨(tz (nrt (u.2 * x.2) : Int)).toArray⟩, .string ⟨(tz (u.2 : Int)).toArray⟩] (fun _ _ h => h.elim) (hLW _ hGV) (Reps.cons (.str _ (by have := tz_dl (nrt (u.2 * x.2) : Int); have := dl_nrt (u.2 * x.2); have := dl_nmul u.2 x.2; unfold maxLen; omega)) (Reps.cons (.str _ (by have := tz_dl (u.2 : Int); unfold maxLen; omega)) .nil))) ?_; rintro e W7 ⟨v, rfl, hb7, hr7⟩; obtain rfl : v = .string ⟨(rt (mkRat (nrt (u.2 * x.2)) u.2)).toArray⟩ := (by cases hr7; rfl); clear hr7; have hU7 := below_heap hb7 hUV; have hX7 := below_heap hb7 hXV; have hG7 := gb_trans hGV (gb_below (r := none) hb7); obtain ⟨cu7, cu7'⟩ := cells2 hU7; obtain ⟨cx7, cx7'⟩ := cells2 hX7; clear hb7)
       | (go_at_call 55; refine Calls.mono ((Tryz.rmul x.1 (mkRat (nrt (u.2 * x.2)) u.2) (by omega) (by omega)).2 (fun _ _ => False) _ [.string ⟨(rt x.1).toArray⟩, .string ⟨(rt (mkRat (nrt (u.2 * x.2)) u.2)).toArray⟩] (fun _ _ h => h.elim) (hLW _ hG7) (Reps.cons (.str _ (by have := rt_len x.1; unfold maxLen; omega)) (Reps.cons (.str _ (by have := rt_len (mkRat (nrt (u.2 * x.2)) u.2); unfold maxLen; omega)) .nil))) ?_; rintro e W8 ⟨v, rfl, hb8, hr8⟩; obtain rfl : v = .string ⟨(rt (x.1 * mkRat (nrt (u.2 * x.2)) u.2)).toArray⟩ := (by cases hr8; rfl); clear hr8; have hU8 := below_heap hb8 hU7; have hX8 := below_heap hb8 hX7; have hG8 := gb_trans hG7 (gb_below (r := none) hb8); obtain ⟨cu8, cu8'⟩ := cells2 hU8; obtain ⟨cx8, cx8'⟩ := cells2 hX8; clear hb8)
       | (go_at_call 29; refine Calls.mono ((Tryz.radd u.1 (x.1 * mkRat (nrt (u.2 * x.2)) u.2) (by omega) (by omega)).2 (fun _ _ => False) _ [.string ⟨(rt u.1).toArray⟩, .string ⟨(rt (x.1 * mkRat (nrt (u.2 * x.2)) u.2)).toArray⟩] (fun _ _ h => h.elim) (hLW _ hG8) (Reps.cons (.str _ (by have := rt_len u.1; unfold maxLen; omega)) (Reps.cons (.str _ (by have := rt_len (x.1 * mkRat (nrt (u.2 * x.2)) u.2); unfold maxLen; omega)) .nil))) ?_; rintro e W9 ⟨v, rfl, hb9, hr9⟩; obtain rfl : v = .string ⟨(rt (u.1 + x.1 * mkRat (nrt (u.2 * x.2)) u.2)).toArray⟩ := (by cases hr9; rfl); clear hr9; have hU9 := below_heap hb9 hU8; have hX9 := below_heap hb9 hX8; have hG9 := gb_trans hG8 (gb_below (r := none) hb9); obtain ⟨cu9, cu9'⟩ := cells2 hU9; obtain ⟨cx9, cx9'⟩ := cells2 hX9; have hown9 := hown.kept hG9 (.inr (by simp [Value.ownBlock])); have f9 := hown9.frozenAt (k * 2); have f9' := hown9.frozenAt (k * 2 + 1); have d9 := (hown9.cellAt (k * 2) (by omega)).trans (tcs_at hu).1; have d9' := (hown9.cellAt (k * 2 + 1) (by omega)).trans (tcs_at hu).2; clear hb9))
     all_goals go_wp2_with fail
     all_goals go_ret
     have em : mrg u x = (u.1 + x.1 * mkRat (nrt (u.2 * x.2)) u.2, u.2) := by unfold mrg; rw [if_neg hc]
     have st1 := hown9.stored (k * 2) (.string ⟨(rt (u.1 + x.1 * mkRat (nrt (u.2 * x.2)) u.2)).toArray⟩)
     have st2 := st1.1.stored (k * 2 + 1) (.string ⟨(tz (u.2 : Int)).toArray⟩)
     have hgr := gb_trans (gb_trans (gb_none (r := some g) hG9) st1.2) st2.2
     refine ⟨.slice (some ⟨g, 0, none⟩) l.length cap, by simp, ?_, hgr, hbw.grown hgr hbw.size (fun k hk => by cases hk; exact hg.1)⟩
     rw [addL_hit hno hu hq, em, ← tcs_set l k _ hlt, List.length_set]
     exact st2.1
   ·go_wp2_with (go_at_call 178; refine Calls.mono c5 ?_; rintro e W5 ⟨v, rfl, hb5, hr⟩; obtain rfl := alike_ret hr; rw [dB_f hq]; have hG5 := gb_trans hG4 (gb_below (r := none) hb5); have hX5 := below_heap hb5 hX4; clear hr hb5)
    refine ⟨⟨k + 1, by omega, by congr 1 <;> omega, hG5, hX5, fun j v hj hv => ?_⟩, by simp only [intOf]; omega⟩
    rcases Nat.lt_or_ge j k with h | h
    ·exact hno j v h hv
    ·obtain rfl : j = k := by omega
     rw [hu] at hv; cases hv; exact hq
  ·obtain rfl : k = l.length := by omega
   have hall : ∀ u ∈ l, ¬isq (u.2 * x.2) := fun u hu => by
    obtain ⟨j, hj, rfl⟩ := List.getElem_of_mem hu
    exact hno j _ hj (List.getElem?_eq_getElem hj)
   obtain ⟨i0, hi0, hz0, hz1, hz2⟩ := info_parts hinfo
   have hownk := hown.kept hGk (by cases ad <;> simp [Value.ownBlock])
   have cx : wr.cell? ⟨W.heap.size, 0, none⟩ = some (.string ⟨(rt x.1).toArray⟩) := by rw [Lib.cell_of_heap hXk]; rfl
   have cx' : wr.cell? ⟨W.heap.size, 1, none⟩ = some (.string ⟨(tz (x.2 : Int)).toArray⟩) := by rw [Lib.cell_of_heap hXk]; rfl
   go_wp2_with (at_builtin; refine wpList_append_own _ rfl _ _ 67 rfl w0.heap.size 108 i0 _ 2 32 Tryz.underlying67 hi0 hz0 hz1 hz2 rfl (by omega) _ l.length (tcs l) rfl (hownk.alloc _) ⟨wr.heap.size, 0, none⟩ 1 1 (stc x) rfl rfl (World.news_of_block (heap_alloc_new wr _)) (by simp [stc, Value.oneCell']) (by unfold maxLen; omega) (by omega) (by simp; have := hbw.size; omega) ?_; intro v' w' hown' hgrow' hnil')
   go_ret
   have hgr := gb_trans (gb_none hGk) (gb_trans (World.grownBy_alloc _ _ _) hgrow')
   refine ⟨v', by simp, ?_, hgr, hbw.grown hgr hbw.size (fun k hk => (hown.lt k hk).1)⟩
   rw [addL_none hall, tcs_app, List.length_append]
   exact hown'
end Go.Proofs

/-
 SURD: slices.SortFunc of at most 12 terms, in the plain walk. Own work.
-/
namespace Go.Proofs
open Go Go.Pi Go.RowKit Go.Shelf Go.Ar

theorem Tryz.scmp (x y : Tm) (hx : dl (x.2 : Int) ≤ 9000) (hy : dl (y.2 : Int) ≤ 9000) : Con Tryz.prog Tryz.L 176 ([.agg (tD x), .agg (tD y)] ++ []) (.int .i64 (cmpZ (x.2 : Int) (y.2 : Int))) := by
 refine rule176 Tryz.hL rfl rfl rfl ?_
 (try simp only [pc176, rs176, oU, oC, tD, List.append_nil]; refine ev ?_; try exact ⟨⟩)
 refine callF_of (Tryz.compare (x.2 : Int) (y.2 : Int) (by omega) (by omega)) ?_
 (refine ev ?_; try exact ⟨⟩)
theorem rep_tm (S : Nat → Nat → Prop) (W : World) (x : Tm) (h1 : rd x.1 ≤ 2000) (h2 : dl (x.2 : Int) ≤ 200) : Rep S W (.agg (tD x)) (.agg (stc x).toArray) := by
 refine Rep.agg (tD x) (stc x) rfl (by simp [tD, D.one]) fun i d v hd hv => ?_
 match i with
 | 0 => cases hd; cases hv; exact .str _ (by have := rt_len x.1; unfold maxLen; omega)
 | 1 => cases hd; cases hv; exact .str _ (by have := tz_dl (x.2 : Int); unfold maxLen; omega)
 | i + 2 => simp [tD] at hd
theorem Tryz.scmp_calls (x y : Tm) (hx : rd x.1 ≤ 2000 ∧ dl (x.2 : Int) ≤ 200) (hy : rd y.1 ≤ 2000 ∧ dl (y.2 : Int) ≤ 200) (W : World) (hL : Tryz.L W) :
  Calls Tryz.prog 176 #[.agg (stc x).toArray, .agg (stc y).toArray] W fun e W' => e = .returned (.int .i64 (cmpZ (x.2 : Int) (y.2 : Int))) ∧ Below W.heap.size W W' := by
 refine Calls.mono ((Tryz.scmp x y (by omega) (by omega)).2 (fun _ _ => False) W [.agg (stc x).toArray, .agg (stc y).toArray] (fun _ _ h => h.elim) hL (Reps.cons (rep_tm _ _ x hx.1 hx.2) (Reps.cons (rep_tm _ _ y hy.1 hy.2) .nil))) ?_
 rintro e W' ⟨v, rfl, hb, hr⟩
 cases hr
 exact ⟨rfl, hb⟩

/-- in order but for one place -/
def ordB (c : List Tm) (i j : Nat) : Prop := ∀ a b x y, a < b → b ≤ i → b ≠ j → c[a]? = some x → c[b]? = some y → x.2 ≤ y.2
def ordA (c : List Tm) (i : Nat) : Prop := ∀ a b x y, a < b → b < i → c[a]? = some x → c[b]? = some y → x.2 ≤ y.2
theorem ordB_of {c : List Tm} {i : Nat} (h : ordA c i) : ordB c i i := fun a b x y h1 h2 h3 => h a b x y h1 (by omega)
theorem ordA_zero {c : List Tm} {i : Nat} (h : ordB c i 0) : ordA c (i + 1) := fun a b x y h1 h2 => h a b x y h1 (by omega) (by omega)
theorem ordA_stop {c : List Tm} {i j : Nat} {p q : Tm} (h : ordB c i (j + 1)) (hp : c[j]? = some p) (hq : c[j + 1]? = some q) (hle : p.2 ≤ q.2) : ordA c (i + 1) := by
 intro a b x y h1 h2 ha hb
 by_cases e : b = j + 1
 ·subst e
  rw [hq] at hb; cases hb
  by_cases e2 : a = j
  ·subst e2; rw [hp] at ha; cases ha; exact hle
  ·exact Nat.le_trans (h a j x p (by omega) (by omega) (by omega) ha hp) hle
 ·exact h a b x y h1 (by omega) e ha hb
theorem ordB_swap {c : List Tm} {i j : Nat} {p q : Tm} (h : ordB c i (j + 1)) (hj : j + 1 ≤ i) (hp : c[j]? = some p) (hq : c[j + 1]? = some q) (hlt : q.2 < p.2) : ordB ((c.set (j + 1) p).set j q) i j := by
 have hl : j + 1 < c.length := (List.getElem?_eq_some_iff.1 hq).1
 have g : ∀ k, ((c.set (j + 1) p).set j q)[k]? = if k = j then some q else if k = j + 1 then some p else c[k]? := by
  intro k
  rw [List.getElem?_set, List.getElem?_set, List.length_set]
  by_cases e1 : k = j
  ·rw [if_pos e1.symm, if_pos (by omega), if_pos e1]
  ·rw [if_neg (Ne.symm e1), if_neg e1]
   by_cases e2 : k = j + 1
   ·rw [if_pos e2.symm, if_pos (by omega), if_pos e2]
   ·rw [if_neg (Ne.symm e2), if_neg e2]
 intro a b x y h1 h2 h3 ha hb
 rw [g] at ha hb
 rw [if_neg h3] at hb
 by_cases eb : b = j + 1
 ·rw [if_pos eb] at hb; cases hb
  by_cases ea : a = j
  ·rw [if_pos ea] at ha; cases ha; omega
  ·rw [if_neg ea, if_neg (by omega)] at ha
   exact h a j x p (by omega) (by omega) (by omega) ha hp
 ·rw [if_neg eb] at hb
  by_cases ea : a = j
  ·rw [if_pos ea] at ha; cases ha
   exact h (j + 1) b q y (by omega) h2 eb hq hb
  ·rw [if_neg ea] at ha
   by_cases ea2 : a = j + 1
   ·rw [if_pos ea2] at ha; cases ha
    exact h j b p y (by omega) h2 eb hp hb
   ·rw [if_neg ea2] at ha
    exact h a b x y h1 h2 eb ha hb
theorem swap_perm {c : List Tm} {j : Nat} {p q : Tm} (hp : c[j]? = some p) (hq : c[j + 1]? = some q) : ((c.set (j + 1) p).set j q).Perm c := by
 obtain ⟨h1, rfl⟩ := List.getElem?_eq_some_iff.1 hp
 obtain ⟨h2, rfl⟩ := List.getElem?_eq_some_iff.1 hq
 exact List.set_set_perm h2 h1
theorem ordA_sorted {c : List Tm} (h : ordA c c.length) : c.Pairwise fun x y => x.2 ≤ y.2 := by
 rw [List.pairwise_iff_getElem]
 intro a b ha hb hab
 exact h a b _ _ hab hb (List.getElem?_eq_getElem ha) (List.getElem?_eq_getElem hb)

set_option maxRecDepth 100000 in
set_option maxHeartbeats 4000000 in
theorem Tryz.sinsertion (w0 W : World) (v : Value) (l : List Tm) (hL0 : Tryz.L w0) (hbw : Below w0.heap.size w0 W) (hown : W.ownsRow w0.heap.size 108 2 v l.length (tcs l)) (hlen : l.length ≤ 12)
  (hl : ∀ y ∈ l, rd y.1 ≤ 2000 ∧ dl (y.2 : Int) ≤ 200) :
  Calls Tryz.prog 240 #[v, .int .i64 0, .int .i64 l.length, .func (.func 176) #[] #[]] W fun e W' => e = .returned (.tuple #[]) ∧
   ∃ r : List Tm, r.Perm l ∧ (r.Pairwise fun x y => x.2 ≤ y.2) ∧ W'.ownsRow w0.heap.size 108 2 v l.length (tcs r) ∧ W.grownBy W' v.ownBlock ∧ Below w0.heap.size w0 W' := by
 have mixed : Tryz.prog.follows .mixedOrders = true := by kernel_rfl
 have t0 := Tryz.underlying66; have a0 := Tryz.isAgg66; have z0 := Tryz.sizeOf66; have v0 := Tryz.zeroValue66; have u0 := run_underlying Tryz.underlying66
 have t1 := Tryz.underlying108; have a1 := Tryz.isAgg108; have z1 := Tryz.sizeOf108; have v1 := Tryz.zeroValue108; have u1 := run_underlying Tryz.underlying108
 have t3 := Tryz.underlying4; have a3 := Tryz.isAgg4; have z3 := Tryz.sizeOf4; have v3 := Tryz.zeroValue4; have u3 := run_underlying Tryz.underlying4
 have t4 := Tryz.underlying3; have a4 := Tryz.isAgg3; have z4 := Tryz.sizeOf3; have v4 := Tryz.zeroValue3; have u4 := run_underlying Tryz.underlying3
 have vsl : ∃ ad cap, v = .slice ad l.length cap := by
  rcases hown.2 with ⟨h1, h2⟩ | ⟨g, cap, cur, h1, _⟩
  ·exact ⟨none, 0, by rw [h1, h2]⟩
  ·exact ⟨_, _, h1⟩
 obtain ⟨ad, cap, rfl⟩ := vsl
 have HL : Hid (∀ y ∈ l, rd y.1 ≤ 2000 ∧ dl (y.2 : Int) ≤ 200) := hl
 clear hl
 go_enter Tryz.func240, Tryz.ntmps240
 go_wp2
 go_loopg [8] (l.length) (fun g1 vi wr => ∃ (i : Nat) (c : List Tm), vi = .int .i64 i ∧ 1 ≤ i ∧ i ≤ l.length + 1 ∧ l.length ≤ g1 + i ∧ c.Perm l ∧ Hid (ordA c i) ∧ wr.ownsRow w0.heap.size 108 2 (.slice ad l.length cap) l.length (tcs c) ∧ W.grownBy wr (Value.ownBlock (.slice ad l.length cap)))
 case atStart => exact ⟨1, l, by go_num, by omega, by omega, by omega, List.Perm.refl _, fun a b x y h1 h2 => by omega, hown, ⟨rfl, rfl, rfl, Nat.le_refl _, fun _ _ _ => rfl⟩⟩
 case round =>
  obtain ⟨i, c, rfl, hi1, hi2, hg1, hpm, HO, hwn, hgr⟩ := hrel
  by_cases hlt : i < l.length
  ·have hltz : (i : Int) < (l.length : Int) := by omega
   have hadf : ∃ g, ad = some ⟨g, 0, none⟩ := by
    rcases hown.2 with ⟨h1, h2⟩ | ⟨g, cap, cur, h1, _⟩
    ·omega
    ·cases h1; exact ⟨g, rfl⟩
   obtain ⟨g, rfl⟩ := hadf
   go_wp2
   go_loopg [9] i (fun g2 vj wr2 => ∃ (j : Nat) (d : List Tm), vj = .int .i64 j ∧ j ≤ i ∧ j ≤ g2 ∧ d.Perm l ∧ Hid (ordB d i j) ∧ wr2.ownsRow w0.heap.size 108 2 (.slice (some ⟨g, 0, none⟩) l.length cap) l.length (tcs d) ∧ W.grownBy wr2 (some g))
   case atStart => exact ⟨i, c, rfl, Nat.le_refl _, Nat.le_refl _, hpm, ordB_of HO.out, hwn, hgr⟩
   case round =>
    clear hwn hgr hpm HO
    obtain ⟨j, d, rfl, hji, hg2, hpd, HI, hwd, hgd⟩ := hrel
    have hdl : d.length = l.length := hpd.length_eq
    by_cases hj0 : 0 < j
    ·obtain ⟨jp, rfl⟩ : ∃ jp, j = jp + 1 := ⟨j - 1, by omega⟩
     have hjz : decide ((jp : Int) + 1 > 0) = true := decide_eq_true (by omega)
     have hjz2 : (0 : Int) < (jp : Int) + 1 := by omega
     have hp : d[jp]? = some (d[jp]'(by omega)) := List.getElem?_eq_getElem (by omega)
     generalize d[jp]'(by omega) = p at hp
     have hq : d[jp + 1]? = some (d[jp + 1]'(by omega)) := List.getElem?_eq_getElem (by omega)
     generalize d[jp + 1]'(by omega) = q at hq
     have hpb := HL.out p (hpd.mem_iff.1 (List.mem_of_getElem? hp))
     have hqb := HL.out q (hpd.mem_iff.1 (List.mem_of_getElem? hq))
     have hLW : ∀ w', W.grownBy w' (some g) → Tryz.L w' := fun w' h => Tryz.hL w0 _ hL0 (hbw.grown h hbw.size (fun k hk => by cases hk; exact (hown.lt g rfl).1))
     obtain ⟨cp, cp'⟩ := tcs_at hp
     obtain ⟨cq, cq'⟩ := tcs_at hq
     rw [← hwd.cellAt (jp * 2) (by omega)] at cp
     rw [← hwd.cellAt (jp * 2 + 1) (by omega)] at cp'
     rw [← hwd.cellAt ((jp + 1) * 2) (by omega)] at cq
     rw [← hwd.cellAt ((jp + 1) * 2 + 1) (by omega)] at cq'
     have hwp : IntKind.i64.wrap (jp : Int) = (jp : Int) := by rw [IntKind.wrap_i64]; omega
     have jz : (jp : Int) + 1 < (l.length : Int) := by omega
     have jz1 : (jp : Int) < (l.length : Int) := by omega
     have p0 : (0 : Int) ≤ (jp : Int) + 1 := by omega
     have e0 : ((jp : Int) + 1).toNat = jp + 1 := by omega
     have hGd : W.grownBy wr.drew (some g) := ⟨hgd.os, hgd.tape, hgd.output, hgd.size, hgd.block⟩
     have HW : Hid (wr.drew.ownsRow w0.heap.size 108 2 (.slice (some ⟨g, 0, none⟩) l.length cap) l.length (tcs d) ∧ W.grownBy wr.drew (some g)) := ⟨hwd.drew, hGd⟩
     have HX : Hid (d.Perm l ∧ d[jp]? = some p ∧ d[jp + 1]? = some q) := ⟨hpd, hp, hq⟩
     have hcm := Tryz.scmp_calls q p hqb hpb wr.drew (hLW _ hGd)
     clear hwd hgd hGd hpd hp hq
     by_cases hc : q.2 < p.2
     ·have ec : decide (cmpZ (q.2 : Int) (p.2 : Int) < 0) = true := by unfold cmpZ; simp; omega
      go_wp2_with fail
      go_region_held3 (fun w' => w'.cell? ⟨g, jp * 2, none⟩ = some (.string ⟨(rt p.1).toArray⟩) ∧ w'.cell? ⟨g, jp * 2 + 1, none⟩ = some (.string ⟨(tz (p.2 : Int)).toArray⟩) ∧ w'.cell? ⟨g, (jp + 1) * 2, none⟩ = some (.string ⟨(rt q.1).toArray⟩) ∧ w'.cell? ⟨g, (jp + 1) * 2 + 1, none⟩ = some (.string ⟨(tz (q.2 : Int)).toArray⟩)) (go_keep)
       (first
        | (go_at_call 176; refine Calls.mono hcm ?_; rintro e W5 ⟨rfl, hb5⟩; have hw5 := HW.out.1.kept (gb_below (r := none) hb5) (.inr (by simp [Value.ownBlock])); have d1 := (hw5.cellAt (jp * 2) (by omega)).trans (tcs_at HX.out.2.1).1; have d2 := (hw5.cellAt (jp * 2 + 1) (by omega)).trans (tcs_at HX.out.2.1).2; have d3 := (hw5.cellAt ((jp + 1) * 2) (by omega)).trans (tcs_at HX.out.2.2).1; have d4 := (hw5.cellAt ((jp + 1) * 2 + 1) (by omega)).trans (tcs_at HX.out.2.2).2; have hG5 := gb_trans HW.out.2 (gb_below (r := some g) hb5); clear hb5))
      all_goals clear hcm cp cp' cq cq'
      all_goals go_wp2_with fail
      have f1 := hw5.frozenAt (jp * 2)
      have f2 := hw5.frozenAt (jp * 2 + 1)
      have f3 := hw5.frozenAt ((jp + 1) * 2)
      have f4 := hw5.frozenAt ((jp + 1) * 2 + 1)
      have n1 : (jp + 1) * 2 ≠ jp * 2 := by omega
      have n2 : (jp + 1) * 2 + 1 ≠ jp * 2 := by omega
      have n3 : (jp + 1) * 2 ≠ jp * 2 + 1 := by omega
      have n4 : (jp + 1) * 2 + 1 ≠ jp * 2 + 1 := by omega
      go_big_region_o
      all_goals go_wp2
      go_roundg jp
      case measure => omega
      case rel =>
       have st1 := hw5.drew.stored ((jp + 1) * 2) (.string ⟨(rt p.1).toArray⟩)
       have st2 := st1.1.stored ((jp + 1) * 2 + 1) (.string ⟨(tz (p.2 : Int)).toArray⟩)
       have g2 := gb_trans st1.2 st2.2
       rw [tcs_set d (jp + 1) p (by omega)] at st2
       have st3 := st2.1.stored (jp * 2) (.string ⟨(rt q.1).toArray⟩)
       have st4 := st3.1.stored (jp * 2 + 1) (.string ⟨(tz (q.2 : Int)).toArray⟩)
       have g4 := gb_trans g2 (gb_trans st3.2 st4.2)
       rw [tcs_set (d.set (jp + 1) p) jp q (by rw [List.length_set]; omega)] at st4
       refine ⟨jp, (d.set (jp + 1) p).set jp q, by first | rfl | go_num | (congr 1; omega), by omega, Nat.le_refl _, (swap_perm HX.out.2.1 HX.out.2.2).trans HX.out.1, (show Hid _ from ordB_swap HI.out hji HX.out.2.1 HX.out.2.2 hc), st4.1, gb_trans hG5 ?_⟩
       exact ⟨g4.os, g4.tape, g4.output, g4.size, g4.block⟩
     ·have ec : decide (cmpZ (q.2 : Int) (p.2 : Int) < 0) = false := by unfold cmpZ; simp; omega
      go_wp2_with fail
      go_region_held3 (fun w' => w'.cell? ⟨g, jp * 2, none⟩ = some (.string ⟨(rt p.1).toArray⟩) ∧ w'.cell? ⟨g, jp * 2 + 1, none⟩ = some (.string ⟨(tz (p.2 : Int)).toArray⟩) ∧ w'.cell? ⟨g, (jp + 1) * 2, none⟩ = some (.string ⟨(rt q.1).toArray⟩) ∧ w'.cell? ⟨g, (jp + 1) * 2 + 1, none⟩ = some (.string ⟨(tz (q.2 : Int)).toArray⟩)) (go_keep)
       (first
        | (go_at_call 176; refine Calls.mono hcm ?_; rintro e W5 ⟨rfl, hb5⟩; have hw5 := HW.out.1.kept (gb_below (r := none) hb5) (.inr (by simp [Value.ownBlock])); have d1 := (hw5.cellAt (jp * 2) (by omega)).trans (tcs_at HX.out.2.1).1; have d2 := (hw5.cellAt (jp * 2 + 1) (by omega)).trans (tcs_at HX.out.2.1).2; have d3 := (hw5.cellAt ((jp + 1) * 2) (by omega)).trans (tcs_at HX.out.2.2).1; have d4 := (hw5.cellAt ((jp + 1) * 2 + 1) (by omega)).trans (tcs_at HX.out.2.2).2; have hG5 := gb_trans HW.out.2 (gb_below (r := some g) hb5); clear hb5))
      all_goals clear hcm cp cp' cq cq'
      all_goals go_wp2_with fail
      all_goals go_roundg (l.length - (i + 1))
      case measure => omega
      case rel => exact ⟨i + 1, d, by go_num, by omega, by omega, by omega, HX.out.1, (show Hid _ from ordA_stop HI.out HX.out.2.1 HX.out.2.2 (by omega)), hw5, hG5⟩
    ·obtain rfl : j = 0 := by omega
     have hjz : decide ((0 : Int) > 0) = false := by decide
     have hgd' : W.grownBy wr.drew (some g) := ⟨hgd.os, hgd.tape, hgd.output, hgd.size, hgd.block⟩
     have HW : Hid (wr.drew.ownsRow w0.heap.size 108 2 (.slice (some ⟨g, 0, none⟩) l.length cap) l.length (tcs d) ∧ W.grownBy wr.drew (some g) ∧ d.Perm l) := ⟨hwd.drew, hgd', hpd⟩
     clear hwd hgd hgd' hpd
     go_wp2_with fail
     go_big_region_o
     all_goals go_wp2
     go_roundg (l.length - (i + 1))
     case measure => omega
     case rel => exact ⟨i + 1, d, by go_num, by omega, by omega, by omega, HW.out.2.2, (show Hid _ from ordA_zero HI.out), HW.out.1, HW.out.2.1⟩
  ·have hltz : ¬ (i : Int) < (l.length : Int) := by omega
   have hso : c.Pairwise fun x y => x.2 ≤ y.2 := ordA_sorted fun a b x y h1 h2 => HO.out a b x y h1 (by have := hpm.length_eq; omega)
   clear HO
   go_wp2
   go_end0
   exact ⟨rfl, c, hpm, hso, hwn, hgr, hbw.grown hgr hbw.size (fun k hk => (hown.lt k hk).1)⟩
end Go.Proofs

/-
 SURD: slices.DeleteFunc of the terms with factor zero, in the plain walk. Own work.
-/
namespace Go.Proofs
open Go Go.Pi Go.RowKit Go.Shelf Go.Ar

theorem ixA_ge {α : Type} {p : α → Bool} {l : List α} {k : Nat} (h : ¬0 ≤ ixA p l k) : ∀ x ∈ l, p x = false := by
 rw [ixA_any] at h
 intro x hx
 cases hp : p x with
 | false => rfl
 | true => exact absurd (List.any_eq_true.2 ⟨x, hx, hp⟩) h
theorem ixA_small {α : Type} {p : α → Bool} : ∀ {l : List α} {k : Nat}, ixA p l k = -1 ∨ ((k : Int) ≤ ixA p l k ∧ ixA p l k < k + l.length)
 | [], k => .inl rfl
 | a :: l, k => by
   have ih := ixA_small (p := p) (l := l) (k := k + 1)
   simp only [ixA, List.length_cons]
   split
   ·right; omega
   ·rcases ih with h | h
    ·exact .inl h
    ·right; omega

theorem ixA_take {p : Tm → Bool} : ∀ (l : List Tm) (k : Nat), 0 ≤ ixA p l k → ∃ i, i < l.length ∧ ixA p l k = (k + i : Nat) ∧ (l.take (i + 1)).filter (fun x => !p x) = l.take i
 | [], k, h => absurd h (by simp [ixA])
 | x :: l, k, h => by
   by_cases hx : p x = true
   ·exact ⟨0, by simp, by simp [ixA, hx], by simp [hx]⟩
   ·have e : ixA p (x :: l) k = ixA p l (k + 1) := by simp [ixA, hx]
    rw [e] at h
    obtain ⟨i, h1, h2, h3⟩ := ixA_take l (k + 1) h
    refine ⟨i + 1, by simp; omega, by rw [e, h2]; congr 1; omega, ?_⟩
    rw [List.take_succ_cons, List.filter_cons_of_pos (by simpa using hx), h3, List.take_succ_cons]

theorem Tryz.szero (x : Tm) (hx : rd x.1 ≤ 2000) : Con Tryz.prog Tryz.L 174 ([.agg (tD x)] ++ []) (.bool (decide (x.1 = 0))) := by
 refine rule174 Tryz.hL rfl rfl rfl ?_
 (try simp only [pc174, rs174, oU, oC, tD, List.append_nil]; refine ev ?_; try exact ⟨⟩)
 rw [rt_zero, ← dB_dec]
/-- an own row read as data -/
theorem rep_ownS {W : World} {S : Nat → Nat → Prop} {base e : Nat} {v : Value} {l : List Tm} (h : W.ownsRow base e 2 v l.length (tcs l)) (hl : ∀ y ∈ l, rd y.1 ≤ 2000 ∧ dl (y.2 : Int) ≤ 200) (hS : ∀ g j, base ≤ g → g < W.heap.size → S g j) : Rep S W (sg l) v := by
 have hr : ∀ (i : Nat) (d : D) (u : Value), (tms l)[i]? = some d → (tcs l)[i]? = some u → Rep S W d u := by
  clear h
  induction l with
  | nil => intro i d u hd; simp [rows] at hd
  | cons x l ih =>
    obtain ⟨h1, h2⟩ := hl x (List.mem_cons_self ..)
    intro i d u hd hu
    match i with
    | 0 => cases hd; cases hu; exact .str _ (by have := rt_len x.1; unfold maxLen; omega)
    | 1 => cases hd; cases hu; exact .str _ (by have := tz_dl (x.2 : Int); unfold maxLen; omega)
    | i + 2 => exact ih (fun y hy => hl y (List.mem_cons_of_mem _ hy)) i d u hd hu
 have h1 : ∀ d ∈ tms l, d.one = true := by
  intro d hd
  obtain ⟨x, _, hx⟩ := List.mem_flatMap.1 hd
  simp only [tD, List.mem_cons, List.not_mem_nil, or_false] at hx
  rcases hx with rfl | rfl <;> rfl
 rcases h.2 with ⟨rfl, h0⟩ | ⟨g, cap, cur, rfl, hbg, hg, hn, hc, _, _⟩
 ·obtain rfl : l = [] := List.length_eq_zero_iff.1 h0
  exact .sl0 none 0 (Nat.zero_le _)
 ·refine .sl l.length (tms l) g 0 cap (tcs l) (by rw [rows_length tD_len, tcs_len]) h1 hn hc (fun i u hu => ⟨hS g _ hbg (Array.getElem?_eq_some_iff.1 hg).1, ?_⟩) hr
  have hlt := (List.getElem?_eq_some_iff.1 hu).1
  rw [tcs_len] at hlt
  rw [Nat.zero_add, h.cellAt i hlt]; exact hu

theorem rep_own {W : World} {base e : Nat} {v : Value} {l : List Tm} (h : W.ownsRow base e 2 v l.length (tcs l)) (hl : ∀ y ∈ l, rd y.1 ≤ 2000 ∧ dl (y.2 : Int) ≤ 200) : Rep (fun b _ => b < W.heap.size) W (sg l) v := rep_ownS h hl fun _ _ _ h => h

/-- clear(s[i:]) of an own row -/
theorem run_clear_row {P : Program} {w : World} {t e base n cap g i : Nat} {xs : List Value} {z : Value} (ht : P.underlying t = some (.slice e)) (hv : ∀ w, (zeroValue e).run P w = .ok z w) (hz : z.cells.size = 2) (hz1 : ∀ u ∈ z.cells, u.oneCell' = true)
  (h : w.ownsRow base e 2 (.slice (some ⟨g, 0, none⟩) n cap) n xs) (hi : i < n) :
  ∃ w', (∀ ty, (Builtin.clear_ #[t] ty #[.slice (some ⟨g, i * 2, none⟩) (n - i) (cap - i)]).run P w = .ok (.tuple #[]) w') ∧ w'.ownsRow base e 2 (.slice (some ⟨g, 0, none⟩) i cap) i (xs.take (i * 2)) ∧ w.grownBy w' (some g) := by
 have hxl := h.1
 rcases h.2 with ⟨h1, _⟩ | ⟨g', cap', cur, h1, hbg, hg, hnc, hcm, hcs, htk⟩
 ·simp at h1
 ·simp only [Value.slice.injEq, Option.some.injEq, Addr.mk.injEq, and_true, true_and] at h1
  obtain ⟨rfl, rfl⟩ := h1
  have hzs : (Builtin.zeroCells z.cells (n - i)).size = (n - i) * 2 := by rw [size_zeroCells, hz]
  have hfit : i * 2 + 0 + (Builtin.zeroCells z.cells (n - i)).toList.length ≤ cur.size := by rw [Array.length_toList, hzs, hcs]; omega
  have hone : ∀ u ∈ (Builtin.zeroCells z.cells (n - i)).toList, u.oneCell' = true := fun u hu => by
   obtain ⟨q, hq⟩ := List.getElem?_of_mem hu
   simp [Builtin.zeroCells, Array.getElem?_ofFn] at hq
   obtain ⟨hq1, _, rfl⟩ := hq
   have hlt : hq1 % z.cells.size < z.cells.size := Nat.mod_lt _ (by omega)
   rw [getElem!_pos z.cells _ hlt]
   exact hz1 _ (Array.getElem_mem hlt)
  have hex := run_storeCells_at P g (i * 2) e (Builtin.zeroCells z.cells (n - i)).toList 0 cur w hg hfit hone
  simp only [Nat.add_zero] at hex
  generalize hnew : (cur.toList.take (i * 2) ++ (Builtin.zeroCells z.cells (n - i)).toList ++ cur.toList.drop (i * 2 + (Builtin.zeroCells z.cells (n - i)).toList.length)).toArray = arr at hex
  have hnl : arr.toList = cur.toList.take (i * 2) ++ ((Builtin.zeroCells z.cells (n - i)).toList ++ cur.toList.drop (i * 2 + (Builtin.zeroCells z.cells (n - i)).toList.length)) := by rw [← hnew]; simp
  have e1 : (cur.toList.take (i * 2)).length = i * 2 := by rw [List.length_take, Array.length_toList]; omega
  refine ⟨w.setRow g arr, fun ty => ?_, ⟨?_, .inr ⟨g, cap, arr, rfl, hbg, setRow_heap w g cur arr e (0, 0) hg, by omega, hcm, ?_, ?_⟩⟩, ⟨rfl, rfl, rfl, by simp, fun k _ hk => setRow_other w g k arr (fun e => hk (by simp [e]))⟩⟩
  ·obtain ⟨q, hq⟩ : ∃ q, n - i = q + 1 := ⟨n - i - 1, by omega⟩
   rw [hq] at hex ⊢
   simp [Builtin.clear_, run_underlying ht, hv, hex]
  ·rw [List.length_take]; omega
  ·have := congrArg List.length hnl
   rw [List.length_append, List.length_append, e1, List.length_drop, Array.length_toList, Array.length_toList, Array.length_toList] at this
   simp only [Array.length_toList] at hfit
   omega
  ·rw [hnl, List.take_left' e1, ← htk, List.take_take, Nat.min_eq_left (by omega)]

set_option maxRecDepth 100000 in
set_option maxHeartbeats 4000000 in
theorem Tryz.sdeleteO (w0 W : World) (v : Value) (l : List Tm) (hL0 : Tryz.L w0) (hbw : Below w0.heap.size w0 W) (hown : W.ownsRow w0.heap.size 108 2 v l.length (tcs l)) (hlen : l.length ≤ 100)
  (hl : ∀ y ∈ l, rd y.1 ≤ 2000 ∧ dl (y.2 : Int) ≤ 200) :
  Calls Tryz.prog 173 #[v, .func (.func 174) #[] #[]] W fun e W' => ∃ v', e = .returned v' ∧
   W'.ownsRow w0.heap.size 108 2 v' (l.filter fun x => !decide (x.1 = 0)).length (tcs (l.filter fun x => !decide (x.1 = 0))) ∧ W.grownBy W' v.ownBlock ∧ Below w0.heap.size w0 W' := by
 have mixed : Tryz.prog.follows .mixedOrders = true := by kernel_rfl
 have t0 := Tryz.underlying67; have a0 := Tryz.isAgg67; have z0 := Tryz.sizeOf67; have v0 := Tryz.zeroValue67; have u0 := run_underlying Tryz.underlying67
 have t1 := Tryz.underlying108; have a1 := Tryz.isAgg108; have z1 := Tryz.sizeOf108; have v1 := Tryz.zeroValue108; have u1 := run_underlying Tryz.underlying108
 have t3 := Tryz.underlying4; have a3 := Tryz.isAgg4; have z3 := Tryz.sizeOf4; have v3 := Tryz.zeroValue4; have u3 := run_underlying Tryz.underlying4
 have t4 := Tryz.underlying3; have a4 := Tryz.isAgg3; have z4 := Tryz.sizeOf3; have v4 := Tryz.zeroValue3; have u4 := run_underlying Tryz.underlying3
 have vsl : ∃ ad cap, v = .slice ad l.length cap := by
  rcases hown.2 with ⟨h1, h2⟩ | ⟨g, cap, cur, h1, _⟩
  ·exact ⟨none, 0, by rw [h1, h2]⟩
  ·exact ⟨_, _, h1⟩
 obtain ⟨ad, cap, rfl⟩ := vsl
 have HL : Hid (∀ y ∈ l, rd y.1 ≤ 2000 ∧ dl (y.2 : Int) ≤ 200) := hl
 have hci := (Tryz.sindex (f := 174) (caps := []) (fun x => decide (x.1 = 0)) l (by omega) (fun x hx => Tryz.szero x (hl x hx).1)).2 (fun b _ => b < W.heap.size) W [.slice ad l.length cap, .func (.func 174) #[] #[]] (fun b j h => h) (Tryz.hL w0 W hL0 hbw) (Reps.cons (rep_own hown hl) (Reps.cons (.clo _ [] [] rfl (by simp)) .nil))
 clear hl
 by_cases hi : 0 ≤ ixA (fun x : Tm => decide (x.1 = 0)) l 0
 ·obtain ⟨i0, q1, q2, q3⟩ := ixA_take (p := fun x => decide (x.1 = 0)) l 0 hi
  have q2 : ixA (fun x : Tm => decide (x.1 = 0)) l 0 = (i0 : Nat) := by rw [q2, Nat.zero_add]
  rw [q2] at hci
  have hadf : ∃ g, ad = some ⟨g, 0, none⟩ := by
   rcases hown.2 with ⟨h1, h2⟩ | ⟨g, cap, cur, h1, _⟩
   ·omega
   ·cases h1; exact ⟨g, rfl⟩
  obtain ⟨g, rfl⟩ := hadf
  have hne1 : ((i0 : Int) == -1) = false := beq_eq_false_iff_ne.2 (by omega)
  have hcap : l.length ≤ cap := by
   rcases hown.2 with ⟨h1, h2⟩ | ⟨g', cap', cur, h1, _, _, h2, _⟩
   ·omega
   ·cases h1; exact h2
  clear hi
  go_enter Tryz.func173, Tryz.ntmps173
  go_wp2_with (go_at_call 214; refine Calls.mono hci ?_; rintro e W1 ⟨v1, rfl, hb1, hr1⟩; obtain rfl : v1 = .int .i64 (i0 : Nat) := (by cases hr1; rfl); clear hr1)
  have hG1 : W.grownBy W1 (some g) := gb_below hb1
  have hw1 := hown.kept (gb_below (r := none) hb1) (.inr (by simp [Value.ownBlock]))
  clear hb1 hci
  go_loopg [5, 6, 7] l.length (fun gg s5 s6 _ wr => ∃ (i j : Nat) (cur : List Tm), s5 = .int .i64 i ∧ s6 = .int .i64 j ∧ i < j ∧ j ≤ l.length ∧ l.length ≤ gg + j ∧ cur.length = l.length ∧ Hid (cur.take i = (l.take j).filter (fun x => !decide (x.1 = 0))) ∧ Hid (cur.drop j = l.drop j) ∧
    wr.ownsRow w0.heap.size 108 2 (.slice (some ⟨g, 0, none⟩) l.length cap) l.length (tcs cur) ∧ W.grownBy wr (some g))
  case atStart => exact ⟨i0, i0 + 1, l, rfl, by go_num, by omega, by omega, by omega, rfl, q3.symm, rfl, hw1, hG1⟩
  case round =>
   clear hw1 hG1
   obtain ⟨i, j, cur, rfl, rfl, hij, hj, hgg, hcl, HT, HD, hwr, hgr⟩ := hrel
   have hLW : ∀ w', W.grownBy w' (some g) → Tryz.L w' := fun w' h => Tryz.hL w0 _ hL0 (hbw.grown h hbw.size (fun k hk => by cases hk; exact (hown.lt g rfl).1))
   have hgl : g < W.heap.size := (hown.lt g rfl).2
   have hgw : W.heap.size ≤ wr.heap.size := hgr.size
   by_cases hlt : j < l.length
   ·have hltz : (j : Int) < (l.length : Int) := by omega
    have hx : l[j]? = some (l[j]'hlt) := List.getElem?_eq_getElem hlt
    have htk : l.take (j + 1) = l.take j ++ [l[j]'hlt] := List.take_succ_eq_append_getElem hlt
    generalize l[j]'hlt = x at hx htk
    have TK : Hid (l.take (j + 1) = l.take j ++ [x]) := htk
    have hx2 := HL.out x (List.mem_of_getElem? hx)
    have hcx : cur[j]? = some x := by
     have e1 := congrArg (fun q : List Tm => q[0]?) HD.out
     simp only [List.getElem?_drop, Nat.add_zero] at e1
     rw [e1]; exact hx
    have hci2 : cur[i]? = some (cur[i]'(by omega)) := List.getElem?_eq_getElem (by omega)
    generalize cur[i]'(by omega) = old at hci2
    obtain ⟨cA, cB⟩ := tcs_at hcx
    rw [← hwr.cellAt (j * 2) (by omega)] at cA
    rw [← hwr.cellAt (j * 2 + 1) (by omega)] at cB
    have hU : (wr.alloc (.cells #[.string ⟨(rt x.1).toArray⟩, .string ⟨(tz (x.2 : Int)).toArray⟩] 108)).heap[wr.heap.size]? = some (.cells #[.string ⟨(rt x.1).toArray⟩, .string ⟨(tz (x.2 : Int)).toArray⟩] 108 (0, 0)) := World.alloc_heap_new _ _
    have hGa : W.grownBy (wr.alloc (.cells #[.string ⟨(rt x.1).toArray⟩, .string ⟨(tz (x.2 : Int)).toArray⟩] 108)) (some g) := gb_trans hgr (World.grownBy_alloc _ _ _)
    have hwa := hwr.alloc (.cells #[.string ⟨(rt x.1).toArray⟩, .string ⟨(tz (x.2 : Int)).toArray⟩] 108)
    have hdel := (Tryz.szero x hx2.1).2 (fun _ _ => False) (wr.alloc (.cells #[.string ⟨(rt x.1).toArray⟩, .string ⟨(tz (x.2 : Int)).toArray⟩] 108)) [.agg (stc x).toArray] (fun _ _ h => h.elim) (hLW _ hGa) (Reps.cons (rep_tm _ _ x hx2.1 hx2.2) .nil)
    have HW : Hid (wr.ownsRow w0.heap.size 108 2 (.slice (some ⟨g, 0, none⟩) l.length cap) l.length (tcs cur)) := hwr
    have hgi : i * 2 + 1 < l.length * 2 := by omega
    have hgne : g ≠ wr.heap.size := by omega
    have hgne' : wr.heap.size ≠ g := by omega
    clear hwr htk hx
    cases hq : decide (x.1 = 0) with
    | false =>
      rw [hq] at hdel
      go_wp2_with (go_at_call 174; refine Calls.mono hdel ?_; rintro e W5 ⟨v5, rfl, hb5, hr5⟩; obtain rfl : v5 = .bool false := (by cases hr5; rfl); clear hr5; have hU5 := below_heap hb5 hU; obtain ⟨cu5, cu5'⟩ := cells2 hU5; have hG5 := gb_trans hGa (gb_below (r := some g) hb5); have hw5 := hwa.kept (gb_below (r := none) hb5) (.inr (by simp [Value.ownBlock])); have f5 := hw5.frozenAt (i * 2); have f5' := hw5.frozenAt (i * 2 + 1); have d5 := (hw5.cellAt (i * 2) (by omega)).trans (tcs_at hci2).1; have d5' := (hw5.cellAt (i * 2 + 1) (by omega)).trans (tcs_at hci2).2; clear hb5)
      go_roundg (l.length - (j + 1))
      case measure => omega
      case rel =>
       have st1 := hw5.stored (i * 2) (.string ⟨(rt x.1).toArray⟩)
       have st2 := st1.1.stored (i * 2 + 1) (.string ⟨(tz (x.2 : Int)).toArray⟩)
       rw [tcs_set cur i x (by omega)] at st2
       refine ⟨i + 1, j + 1, cur.set i x, by go_num, by go_num, by omega, by omega, by omega, by rw [List.length_set]; exact hcl, (show Hid _ from ?_), (show Hid _ from ?_), st2.1, gb_trans (gb_trans hG5 st1.2) st2.2⟩
       ·have e1 : (cur.set i x).take (i + 1) = cur.take i ++ [x] := by
         rw [List.take_succ_eq_append_getElem (by rw [List.length_set]; omega), List.take_set_of_le (Nat.le_refl _), List.getElem_set_self]
        show _ = _
        rw [e1, HT.out, TK.out, List.filter_append, List.filter_cons_of_pos (by simp [hq]), List.filter_nil]
       ·show _ = _
        rw [List.drop_set_of_lt (by omega), ← List.drop_drop, HD.out, List.drop_drop]
    | true =>
      rw [hq] at hdel
      go_wp2_with (go_at_call 174; refine Calls.mono hdel ?_; rintro e W5 ⟨v5, rfl, hb5, hr5⟩; obtain rfl : v5 = .bool true := (by cases hr5; rfl); clear hr5; have hG5 := gb_trans hGa (gb_below (r := some g) hb5); have hw5 := hwa.kept (gb_below (r := none) hb5) (.inr (by simp [Value.ownBlock])); clear hb5)
      go_roundg (l.length - (j + 1))
      case measure => omega
      case rel =>
       refine ⟨i, j + 1, cur, rfl, by go_num, by omega, by omega, by omega, hcl, (show Hid _ from ?_), (show Hid _ from ?_), hw5, hG5⟩
       ·show _ = _
        rw [HT.out, TK.out, List.filter_append, List.filter_cons_of_neg (by simp [hq]), List.filter_nil, List.append_nil]
       ·show _ = _
        rw [← List.drop_drop, HD.out, List.drop_drop]
   ·obtain rfl : j = l.length := by omega
    have hltz : ¬ (l.length : Int) < (l.length : Int) := by omega
    obtain ⟨w2, hcl2, hw2, hg2⟩ := run_clear_row t0 v1 rfl (by simp [Value.cells, Value.oneCell']) hwr hij
    have htt := HT.out
    rw [List.take_length] at htt
    have hil : (l.filter fun x => !decide (x.1 = 0)).length = i := by rw [← htt, List.length_take]; omega
    have HIL : Hid ((l.filter fun x => !decide (x.1 = 0)).length = i) := hil
    clear hil
    have e1 : (tcs cur).take (i * 2) = tcs (l.filter fun x => !decide (x.1 = 0)) := by
     rw [← htt]
     conv => lhs; rw [← List.take_append_drop i cur, tcs_app]
     rw [List.take_left' (by rw [tcs_len, List.length_take]; omega)]
    rw [e1] at hw2
    have hne : ¬ (cap = i) := by omega
    clear hwr HT HD htt e1
    go_wp2
    go_ret
    exact ⟨_, rfl, by rw [HIL.out]; exact hw2, gb_trans hgr hg2, hbw.grown (gb_trans hgr hg2) hbw.size (fun k hk => by cases hk; exact (hown.lt g rfl).1)⟩
 ·have hall := ixA_ge (p := fun x : Tm => decide (x.1 = 0)) (l := l) (k := 0) hi
  have hf : l.filter (fun x => !decide (x.1 = 0)) = l := List.filter_eq_self.2 fun x hx => by rw [hall x hx]; rfl
  have q2 : ixA (fun x : Tm => decide (x.1 = 0)) l 0 = -1 := by
   rcases ixA_small (p := fun x : Tm => decide (x.1 = 0)) (l := l) (k := 0) with h | h
   ·exact h
   ·exact absurd (by have := h.1; omega) hi
  rw [q2] at hci
  rw [hf]
  clear hall hf hi
  go_enter Tryz.func173, Tryz.ntmps173
  go_wp2_with (go_at_call 214; refine Calls.mono hci ?_; rintro e W1 ⟨v1, rfl, hb1, hr1⟩; obtain rfl : v1 = .int .i64 (-1) := (by cases hr1; rfl); clear hr1)
  go_ret
  exact ⟨_, by simp, hown.kept (gb_below (r := none) hb1) (by cases ad <;> simp [Value.ownBlock]), gb_below hb1, hbw.grown (gb_below (r := none) hb1) hbw.size (fun k hk => by cases hk)⟩
end Go.Proofs

/-
 SURD: slices.SortFunc of at most 12 terms. Own work.
-/
namespace Go.Proofs
open Go Go.Pi Go.RowKit Go.Shelf Go.Ar

set_option maxRecDepth 100000 in
set_option maxHeartbeats 4000000 in
theorem Tryz.sortLen (n : Nat) (h : n ≤ 12) (W : World) : Calls Tryz.prog 125 #[.int .u64 n] W fun e W' => (∃ k : Int, e = .returned (.int .i64 k)) ∧ W' = W := by
 have mixed : Tryz.prog.follows .mixedOrders = true := by kernel_rfl
 have hb := Tryz.bits_Len64 (n : Int) W (by omega) (by omega)
 have hwr : IntKind.u64.wrap (n : Int) = (n : Int) := by rw [IntKind.wrap_u64]; omega
 have t4 := Tryz.underlying156; have t5 := Tryz.underlying178; have t6 := Tryz.underlying3
 go_enter Tryz.func125, Tryz.ntmps125
 go_wp2_with (go_at_call 168; refine Calls.mono hb ?_; rintro e W1 ⟨rfl, rfl⟩)
 go_ret
 exact ⟨⟨_, rfl⟩, rfl⟩

set_option maxRecDepth 100000 in
set_option maxHeartbeats 4000000 in
theorem Tryz.spdq (w0 W : World) (v : Value) (l : List Tm) (k : Int) (hL0 : Tryz.L w0) (hbw : Below w0.heap.size w0 W) (hown : W.ownsRow w0.heap.size 108 2 v l.length (tcs l)) (hlen : l.length ≤ 12)
  (hl : ∀ y ∈ l, rd y.1 ≤ 2000 ∧ dl (y.2 : Int) ≤ 200) :
  Calls Tryz.prog 215 #[v, .int .i64 0, .int .i64 l.length, .int .i64 k, .func (.func 176) #[] #[]] W fun e W' => e = .returned (.tuple #[]) ∧
   ∃ r : List Tm, r.Perm l ∧ (r.Pairwise fun x y => x.2 ≤ y.2) ∧ W'.ownsRow w0.heap.size 108 2 v l.length (tcs r) ∧ W.grownBy W' v.ownBlock ∧ Below w0.heap.size w0 W' := by
 have mixed : Tryz.prog.follows .mixedOrders = true := by kernel_rfl
 have t0 := Tryz.underlying66
 have t3 := Tryz.underlying4; have t4 := Tryz.underlying3
 have hi := Tryz.sinsertion w0 W v l hL0 hbw hown hlen hl
 have hle : (l.length : Int) ≤ 12 := by omega
 have hwr : IntKind.i64.wrap (l.length : Int) = (l.length : Int) := by rw [IntKind.wrap_i64]; omega
 have vsl : ∃ ad cap, v = .slice ad l.length cap := by
  rcases hown.2 with ⟨h1, h2⟩ | ⟨g, cap, cur, h1, _⟩
  ·exact ⟨none, 0, by rw [h1, h2]⟩
  ·exact ⟨_, _, h1⟩
 obtain ⟨ad, cap, rfl⟩ := vsl
 clear hl hown
 go_enter Tryz.func215, Tryz.ntmps215
 go_wp2
 refine wp_loop_rounds 1 ?_
 rw [rounds_succ]
 go_wp2_with (go_at_call 240; refine Calls.mono hi ?_; rintro e W1 ⟨rfl, h1⟩)
 (try simp only [Exit.inBlock, Exit.then]); refine bodyPost_ret (results_none rfl _ _ _) rfl ?_
 exact ⟨rfl, h1⟩

set_option maxRecDepth 100000 in
set_option maxHeartbeats 4000000 in
theorem Tryz.ssort (w0 W : World) (v : Value) (l : List Tm) (hL0 : Tryz.L w0) (hbw : Below w0.heap.size w0 W) (hown : W.ownsRow w0.heap.size 108 2 v l.length (tcs l)) (hlen : l.length ≤ 12)
  (hl : ∀ y ∈ l, rd y.1 ≤ 2000 ∧ dl (y.2 : Int) ≤ 200) :
  Calls Tryz.prog 175 #[v, .func (.func 176) #[] #[]] W fun e W' => e = .returned (.tuple #[]) ∧
   ∃ r : List Tm, r.Perm l ∧ (r.Pairwise fun x y => x.2 ≤ y.2) ∧ W'.ownsRow w0.heap.size 108 2 v l.length (tcs r) ∧ W.grownBy W' v.ownBlock ∧ Below w0.heap.size w0 W' := by
 have mixed : Tryz.prog.follows .mixedOrders = true := by kernel_rfl
 have t0 := Tryz.underlying67; have t1 := Tryz.underlying66
 have t3 := Tryz.underlying156; have t4 := Tryz.underlying3
 have hp := fun k => Tryz.spdq w0 W v l k hL0 hbw hown hlen hl
 have hn := Tryz.sortLen l.length hlen W
 have hwr : IntKind.u64.wrap (l.length : Int) = (l.length : Int) := by rw [IntKind.wrap_u64]; omega
 have vsl : ∃ ad cap, v = .slice ad l.length cap := by
  rcases hown.2 with ⟨h1, h2⟩ | ⟨g, cap, cur, h1, _⟩
  ·exact ⟨none, 0, by rw [h1, h2]⟩
  ·exact ⟨_, _, h1⟩
 obtain ⟨ad, cap, rfl⟩ := vsl
 clear hl hown
 go_enter Tryz.func175, Tryz.ntmps175
 go_wp2_with (first | (go_at_call 125; refine Calls.mono hn ?_; rintro e W1 ⟨⟨k, rfl⟩, rfl⟩) | (go_at_call 215; refine Calls.mono (hp _) ?_; rintro e W2 ⟨rfl, h1⟩))
 go_end0
 exact ⟨rfl, h1⟩
end Go.Proofs
