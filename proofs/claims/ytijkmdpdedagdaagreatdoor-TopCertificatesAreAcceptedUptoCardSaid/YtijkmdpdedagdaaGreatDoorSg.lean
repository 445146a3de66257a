/-
  SUCCESSION: Order and Cycle. Own work.
-/
import Derived.Test.YtijkmdpdedagdaaGreatDoorPj
import Derived.Test.YtijkmdpdedagdaaGreatDoorSf
import Derived.Test.YtijkmdpdedagdaaGreatDoorSd
import Derived.Lib.SliceRun
import Derived.WalkSpells
import Derived.Test.YtijkmdpdedagdaaGreatDoorEh
import Derived.Laws.StructEq
set_option linter.unusedVariables false
set_option linter.unusedSimpArgs false
namespace Go.Tp
open Go Go.Pi Go.RowKit
theorem arcsK_ok {us : List (List UInt8)} {l : List Rl} (h : ∀ x ∈ l, x.l ∈ us ∧ x.u ∈ us) : ∀ k, ∀ a ∈ arcsK us l k, ArOk us.length a ∧ a.i < k
  | 0 => fun a ha => by cases ha
  | k + 1 => fun a ha => by
    have ih := arcsK_ok h k
    unfold arcsK at ha
    split at ha
    · rename_i x hx
      obtain ⟨h1, h2⟩ := h x (List.mem_of_getElem? hx)
      split at ha
      · have := ih a ha; exact ⟨this.1, by omega⟩
      · rcases List.mem_append.1 ha with ha | ha
        · have := ih a ha; exact ⟨this.1, by omega⟩
        · rw [List.mem_singleton] at ha
          subst ha
          exact ⟨⟨List.idxOf_lt_length_of_mem h1, List.idxOf_lt_length_of_mem h2⟩, Nat.lt_succ_self k⟩
    · have := ih a ha; exact ⟨this.1, by omega⟩
theorem units_mem (l : List Rl) : ∀ x ∈ l, x.l ∈ unitsF l ∧ x.u ∈ unitsF l := fun x hx =>
  ⟨usort_mem.2 (List.mem_flatMap.2 ⟨x, hx, by simp⟩), usort_mem.2 (List.mem_flatMap.2 ⟨x, hx, by simp⟩)⟩
theorem arcsF_ok (l : List Rl) (hl : l.length ≤ 200) : (arcsF l).length ≤ 200 ∧ ∀ a ∈ arcsF l, ArOk (unitsF l).length a ∧ a.i ≤ 200 :=
  ⟨Nat.le_trans (arcsK_len _) hl, fun a ha => by have := arcsK_ok (units_mem l) _ a ha; exact ⟨this.1, by omega⟩⟩
theorem srtF_ki {n : Nat} {arcs : List Ar} (ha : ∀ x ∈ arcs, ArOk n x) : ∃ c, KI n arcs c [] (srtF n arcs) [] := by
  obtain ⟨h1, h2⟩ := kloop_ki ha (n + 1) (s0K n arcs) (KI.start ha) (by simp [s0K])
  rw [h2] at h1
  exact ⟨_, h1⟩
theorem srtF_nat {n : Nat} {arcs : List Ar} (ha : ∀ x ∈ arcs, ArOk n x) : (srtF n arcs).length ≤ n ∧ (∀ x ∈ (srtF n arcs).map Int.toNat, x < n) ∧ ((srtF n arcs).map Int.toNat).map (fun x : Nat => (x : Int)) = srtF n arcs := by
  obtain ⟨c, h⟩ := srtF_ki ha
  have hb := h.bound
  refine ⟨by simpa using hb, fun x hx => ?_, ?_⟩
  · obtain ⟨y, hy, rfl⟩ := List.mem_map.1 hx
    obtain ⟨j, hj, rfl⟩ := h.bd y (by simpa using hy)
    simpa using hj
  · rw [List.map_map]
    conv => rhs; rw [← List.map_id (srtF n arcs)]
    apply List.map_congr_left
    intro y hy
    obtain ⟨j, hj, rfl⟩ := h.bd y (by simpa using hy)
    simp
/-- what was settled, and what is new -/
def FS (S : Nat → Nat → Prop) (W w : World) : Nat → Nat → Prop := fun b j => S b j ∨ (W.heap.size ≤ b ∧ b < w.heap.size)
theorem FS.lt {S : Nat → Nat → Prop} {W w : World} (hS : ∀ b j, S b j → b < W.heap.size) (hb : Below W.heap.size W w) : ∀ b j, FS S W w b j → b < w.heap.size := fun b j h => h.elim (fun e => Nat.lt_of_lt_of_le (hS b j e) hb.size) fun e => e.2
theorem FS.rep {S : Nat → Nat → Prop} {W w w' : World} {d : D} {v : Value} (hb : Below W.heap.size W w) (hb2 : Below w.heap.size w w') (h : Rep (fun b j => FS S W w b j ∨ (w.heap.size ≤ b ∧ b < w'.heap.size)) w' d v) : Rep (FS S W w') w' d v :=
  h.mono (fun b j h => by
    rcases h with (h | h) | h
    · exact .inl h
    · exact .inr ⟨h.1, Nat.lt_of_lt_of_le h.2 hb2.size⟩
    · exact .inr ⟨Nat.le_trans hb.size h.1, h.2⟩) fun _ _ _ => rfl
/-- the least order of the units, if there is one -/
def ordL (l : List Rl) : List (List UInt8) := ((srtF (unitsF l).length (arcsF l)).map Int.toNat).map fun x => (unitsF l)[x]?.getD []
def ordOk (l : List Rl) : Prop := (srtF (unitsF l).length (arcsF l)).length = (unitsF l).length
instance (l : List Rl) : Decidable (ordOk l) := by unfold ordOk; infer_instance
end Go.Tp
namespace Go.Proofs
open Go Go.Pi Go.RowKit Go.Tp Go.Lib
set_option maxRecDepth 100000 in
set_option maxHeartbeats 4000000 in
theorem Tryz.sorderY (l : List Rl) (h : GoodR l) (ho : ordOk l) : Con Tryz.prog Tryz.L 11 [relsD l] (.tup [strsD (ordL l), .int .i64 0]) := by
  obtain ⟨h1, h2⟩ := arcsF_ok l h.1
  have ha : ∀ x ∈ arcsF l, ArOk (unitsF l).length x := fun x hx => (h2 x hx).1
  obtain ⟨s1, s2, s3⟩ := srtF_nat ha
  have hu := h.2.2
  have hn := Tryz.sname (unitsF l) (arcsF l) ((srtF (unitsF l).length (arcsF l)).map Int.toNat) hu (by rw [List.length_map]; omega) s2
  rw [s3, List.length_map] at hn
  have hs := Tryz.ssorted (unitsF l) (arcsF l) hu h1 h2
  rw [decide_eq_true (show (srtF (unitsF l).length (arcsF l)).length = (unitsF l).length from ho)] at hs
  refine rule11 Tryz.hL rfl rfl rfl ?_
  (simp only [pc11, rs11, oU, oC]; refine ev ?_; try with_reducible exact trivial)
  refine callF_of (Tryz.succCheck l h) ?_
  (refine ev ?_; try with_reducible exact trivial)
  refine callF_of (Tryz.sbuild l h) ?_
  simp only [gD, evX, evY, evZ, forall_const, implies_true, initE, stepF, D.clean, mvF, moF, tkF, shF, ariF, ciF, catF, scF, ebF, eqF, eqOk, eqPr, enF, notF, ngF, cvF, csF, csbF, lenF, lenSF, ixF, iaF, PX.slot, iaAF, faF, ldF, D.mem, stF, bxF, mkSF, boundF, fldF, ixAF, mmF2, D.plain, D.isPure, optAll, D.dull, callVF, splice, D.cells, D.one, sets, resT, D.flat, D.flat0, D.simple, Nat.reduceBNe, Nat.reduceLT, reduceIte, Nat.reduceEqDiff, Nat.reduceAdd, Nat.reduceMul, Nat.reduceSub, Nat.reduceLeDiff, Int.reduceToNat, Int.reduceLT, Int.reduceLE, Int.reduceEq, Int.reduceNeg, Int.reduceSub, Int.reduceAdd, Int.reduceMul, stG_own]
  refine callF_of hs ?_
  (refine ev ?_; try with_reducible exact trivial)
  refine callF_of hn ?_
  (refine ev ?_; try with_reducible exact trivial)
  simp [resD_two, rvD, lk, D.plain, D.isPure, optAll, strsD, ordL, Function.comp_def]
theorem Tryz.sbCall {S : Nat → Nat → Prop} {W w : World} {v : Value} {l : List Rl} (h : GoodR l) (hS : ∀ b j, S b j → b < W.heap.size) (hR : Rep S W (relsD l) v) (hb : Below W.heap.size W w) :
    Calls Tryz.prog 16 #[v] w fun e w' => ∃ v2, e = .returned v2 ∧ Below w.heap.size w w' ∧ Rep (FS S W w') w' (gD (unitsF l) (arcsF l)) v2 := by
  refine Calls.mono ((Tryz.sbuild l h).2 (FS S W w) w [v] (FS.lt hS hb) trivial (Reps.cons (hR.mono (fun b j hs => .inl hs) fun b j hs => hb.cell (p := ⟨b, j, none⟩) (hS b j hs)) .nil)) ?_
  rintro e w' ⟨v2, rfl, hb2, hr2⟩
  exact ⟨v2, rfl, hb2, FS.rep hb hb2 hr2⟩
theorem Tryz.cyCall {S : Nat → Nat → Prop} {W w : World} {v : Value} {us : List (List UInt8)} {arcs : List Ar} (hu : us.length ≤ 60) (hl : arcs.length ≤ 200) (ha : ∀ x ∈ arcs, ArOk us.length x ∧ x.i ≤ 200) (hS : ∀ b j, S b j → b < W.heap.size) (hb : Below W.heap.size W w) (hR : Rep (FS S W w) w (gD us arcs) v) :
    Calls Tryz.prog 17 #[v] w fun e w' => ∃ ad n cap, e = .returned (.slice ad n cap) ∧ Below w.heap.size w w' ∧ Rep (FS S W w') w' (.sl ((cycF us.length arcs).getD []).length (ints .i64 ((cycF us.length arcs).getD []))) (.slice ad n cap) ∧ (!ad.isNone) = (cycF us.length arcs).isSome := by
  refine Calls.mono ((Tryz.scycle us arcs hu hl ha).2 (FS S W w) w [v] (FS.lt hS hb) trivial (Reps.cons hR .nil)) ?_
  rintro e w' ⟨v2, rfl, hb2, hr2⟩
  unfold cycR at hr2
  cases hc : cycF us.length arcs with
  | none =>
    rw [hc] at hr2
    have hr3 := FS.rep (d := .sl 0 [.un]) hb hb2 hr2
    generalize hq : D.sl 0 [.un] = q at hr3
    cases hr3 with
    | slN => exact ⟨none, 0, 0, rfl, hb2, .sl0 none 0 (Nat.zero_le _), rfl⟩
    | sl n ds b off cap vs hl2 h1 hn hc2 hr h =>
      cases hq
      have := h1 D.un (by simp)
      cases this
    | _ => cases hq
  | some c =>
    rw [hc] at hr2
    have hr4 := FS.rep (d := .sl c.length (ints .i64 c)) hb hb2 hr2
    have hne : 0 < c.length := by
      unfold cycF at hc
      split at hc <;> cases hc
      simp
    obtain ⟨ad, cap, rfl, hg⟩ := sl_get hr4 (by intro e; obtain ⟨x, _, hx⟩ := List.mem_map.1 e; cases hx)
    obtain ⟨b, off, u, rfl, _⟩ := hg 0 (.int .i64 c[0]) (by simp [ints, hne])
    exact ⟨_, _, cap, rfl, hb2, hr4, rfl⟩
/-- the smallest cycle -/
def _root_.Go.Tp.cyclL (l : List Rl) : Option (List Int) := cycF (unitsF l).length (arcsF l)
set_option maxRecDepth 100000 in
set_option maxHeartbeats 4000000 in
theorem Tryz.sCycle (l : List Rl) (h : GoodR l) : Con Tryz.prog Tryz.L 7 [relsD l] (.tup [.sl ((cyclL l).getD []).length (ints .i64 ((cyclL l).getD [])), .bool (cyclL l).isSome, .int .i64 0]) := by
  have mixed : Tryz.prog.follows .mixedOrders = true := by kernel_rfl
  have t2 := Tryz.underlying26
  have t3 := Tryz.underlying4
  have t5 := Tryz.underlying24
  have t28 := Tryz.underlying27
  have t11 := Tryz.underlying44
  have qT : ∀ (w : World) (a : Option Addr) (n c n' c' : Nat), (binOp .neq 26 (.slice a n c) (.slice none n' c')).run Tryz.prog w = .ok (.bool (!a.isNone)) w := fun w a n c n' c' => run_neq_slice_nil_any w _ _ a n c n' c' Tryz.underlying26
  have hok := arcsF_ok l h.1
  have hu := h.2.2
  refine ⟨⟨by kernel_rfl, rfl⟩, fun S W vs hS hL hrep => ?_⟩
  obtain ⟨va, r1, rfl, hra, t1'⟩ := hrep.uncons
  obtain rfl : r1 = [] := List.length_eq_zero_iff.1 t1'.1.symm
  clear t1' hrep
  obtain ⟨ad, cap, rfl, _⟩ := rel_cells hra
  have hc := (Tryz.succCheck l h).2 S W [.slice ad l.length cap] hS hL (Reps.cons hra .nil)
  have HR : Hid (Rep S W (relsD l) (.slice ad l.length cap)) := hra
  have HS : Hid (∀ b j, S b j → b < W.heap.size) := hS
  clear hra hS
  show Calls _ _ #[.slice ad l.length cap] _ _
  go_enter Tryz.func7, Tryz.ntmps7
  go_wp2_with (first
    | (go_at_call 15; refine Calls.mono hc ?_; rintro e W1 ⟨v1, rfl, hb1, hr1⟩; obtain rfl : v1 = .int .i64 0 := (by cases hr1; rfl); have HB1 : Hid (Below W.heap.size W W1) := hb1; clear hb1 hr1 hc)
    | (go_at_call 16; refine Calls.mono (Tryz.sbCall h HS.out HR.out HB1.out) ?_; rintro e W2 ⟨v2, rfl, hb2, hr2⟩; have HB2 : Hid (Below W.heap.size W W2 ∧ Rep (FS S W W2) W2 (gD (unitsF l) (arcsF l)) v2) := ⟨HB1.out.trans (hb2.mono HB1.out.size), hr2⟩; clear hb2 hr2)
    | (go_at_call 17; refine Calls.mono (Tryz.cyCall hu hok.1 hok.2 HS.out HB2.out.1 HB2.out.2) ?_; rintro e W3 ⟨ad3, n3, cap3, rfl, hb3, hr3, hn3⟩; have HB3 : Hid (Below W.heap.size W W3 ∧ Rep (FS S W W3) W3 (.sl ((cyclL l).getD []).length (ints .i64 ((cyclL l).getD []))) (.slice ad3 n3 cap3) ∧ (!ad3.isNone) = (cyclL l).isSome) := ⟨HB2.out.1.trans (hb3.mono HB2.out.1.size), hr3, hn3⟩; clear hb3 hr3 hn3))
  go_ret3
  refine ⟨_, rfl, HB3.out.1, ?_⟩
  have hb : ad3.isSome = (cyclL l).isSome := by rw [← HB3.out.2.2]; cases ad3 <;> rfl
  show Rep (FS S W W3) W3 _ (.tuple #[.slice ad3 n3 cap3, .bool ad3.isSome, .int .i64 0])
  rw [hb]
  exact .tup _ [.slice ad3 n3 cap3, .bool (cyclL l).isSome, .int .i64 0] rfl fun i d v hd hv => by
    match i with
    | 0 => cases hd; cases hv; exact HB3.out.2.1
    | 1 => cases hd; cases hv; exact .bool _
    | 2 => cases hd; cases hv; exact .int _ _
    | i + 3 => simp at hd
end Go.Proofs

/-
  CHECKER: Cycle, in the plain walk. Own work.
-/
namespace Go.Tp
open Go Go.Pi
/-- the relations of a list of numbers lead round, each unit once -/
structure CycOk (l : List Rl) (c : List Nat) : Prop where
  pos : 0 < c.length
  arc : ∀ i ∈ c, ∃ x, l[i]? = some x ∧ x.k ≠ 4
  next : ∀ (k i j : Nat) (x y : Rl), c[(k + c.length - 1) % c.length]? = some i → c[k]? = some j → l[i]? = some x → l[j]? = some y → x.u = y.l
  once : ∀ (k m i j : Nat) (x y : Rl), k < m → c[k]? = some i → c[m]? = some j → l[i]? = some x → l[j]? = some y → x.l ≠ y.l
/-- the lower units of the first relations -/
def seenK (l : List Rl) (c : List Nat) (k : Nat) (s : List UInt8) : Bool := (c.take k).any fun i => match l[i]? with
  | some x => decide (x.l = s)
  | none => false
theorem seenK_zero (l : List Rl) (c : List Nat) : seenK l c 0 = fun _ => false := by funext s; simp [seenK]
theorem seenK_succ {l : List Rl} {c : List Nat} {k i : Nat} {x : Rl} (h : c[k]? = some i) (hx : l[i]? = some x) : (fun z => if z = x.l then true else seenK l c k z) = seenK l c (k + 1) := by
  funext z
  unfold seenK
  rw [List.take_add_one, h, List.any_append]
  simp only [Option.toList_some, List.any_cons, List.any_nil, Bool.or_false, hx]
  by_cases hz : z = x.l
  · subst hz; simp
  · rw [if_neg hz, decide_eq_false (fun e => hz e.symm), Bool.or_false]
theorem seenK_no {l : List Rl} {c : List Nat} (h : CycOk l c) {k j : Nat} {y : Rl} (hj : c[k]? = some j) (hy : l[j]? = some y) : seenK l c k y.l = false := by
  cases hs : seenK l c k y.l with
  | false => rfl
  | true =>
    unfold seenK at hs
    obtain ⟨i, hi, hx⟩ := List.any_eq_true.1 hs
    obtain ⟨m, hm, e⟩ := List.mem_iff_getElem.1 hi
    rw [List.length_take] at hm
    rw [List.getElem_take] at e
    split at hx
    · rename_i x hlx
      have := h.once m k i j x y (by omega) (by rw [← e]; exact List.getElem?_eq_getElem _) hj hlx hy
      exact absurd (by simpa using hx) this
    · cases hx
end Go.Tp
namespace Go.Proofs
open Go Go.Pi Go.RowKit Go.Shelf Go.Tp Go.Lib
theorem Tryz.ckClo (l : List Rl) (hl : l.length ≤ 200) (hk : ∀ x ∈ l, 1 ≤ x.k ∧ x.k ≤ 4) {i : Nat} {x : Rl} (hx : l[i]? = some x) (hx4 : x.k ≠ 4) : Con Tryz.prog Tryz.L 20 ([.int .i64 i] ++ [.pt [relsD l]]) (.bool false) := by
  refine rule20 Tryz.hL rfl rfl rfl ?_
  (simp only [pc20, rs20, oU, oC]; refine ev ?_; try with_reducible exact trivial)
  have h := Tryz.ckArc l hl hk hx
  rw [decide_eq_true hx4] at h
  refine callF_of h ?_
  (refine ev ?_; try with_reducible exact trivial)
set_option maxRecDepth 100000 in
set_option maxHeartbeats 8000000 in
theorem Tryz.ckIndex {f : Nat} {caps : List D} (c : List Nat) (hl : c.length ≤ 1000) (h : ∀ x ∈ c, Con Tryz.prog Tryz.L f ([.int .i64 x] ++ caps) (.bool false)) :
    Con Tryz.prog Tryz.L 34 [.sl c.length (ints .i64 (c.map fun x : Nat => (x : Int))), .clo f caps] (.int .i64 (-1)) := by
  refine rule34 Tryz.hL rfl rfl rfl ?_
  (simp only [pc34, rs34, oU, oC]; refine ev ?_; try with_reducible exact trivial)
  refine loopF_of (fun E => ∃ k : Nat, k ≤ c.length ∧ E = [(0, .sl c.length (ints .i64 (c.map fun x : Nat => (x : Int)))), (1, .clo f caps), (7, .int .i64 c.length), (8, .int .i64 k)])
    (fun E => match lk E 8 with | .int _ i => c.length - i.toNat | _ => 0) ⟨0, Nat.zero_le _, rfl⟩ ?_
  rintro _ ⟨k, hk, rfl⟩
  (refine ev ?_; try with_reducible exact trivial)
  intro h1
  have hx : c[k]? = some (c[k]'(by omega)) := List.getElem?_eq_getElem (by omega)
  generalize c[k]'(by omega) = x at hx
  have hm : (c.map fun x : Nat => (x : Int)).getD k 0 = (x : Int) := by rw [List.getD_eq_getElem?_getD, List.getElem?_map, hx]; rfl
  rw [hm, List.length_map]
  refine ⟨⟨by omega, by omega, by omega⟩, by omega, ?_⟩
  refine callF_of (h x (List.mem_of_getElem? hx)) ?_
  (refine ev ?_; try with_reducible exact trivial)
  refine ⟨by omega, ⟨k + 1, by omega, rfl⟩, by omega⟩
theorem Tryz.ckContains {f : Nat} {caps : List D} (c : List Nat) (hl : c.length ≤ 1000) (h : ∀ x ∈ c, Con Tryz.prog Tryz.L f ([.int .i64 x] ++ caps) (.bool false)) :
    Con Tryz.prog Tryz.L 19 [.sl c.length (ints .i64 (c.map fun x : Nat => (x : Int))), .clo f caps] (.bool false) := by
  refine rule19 Tryz.hL rfl rfl rfl ?_
  (simp only [pc19, rs19, oU, oC]; refine ev ?_; try with_reducible exact trivial)
  refine callF_of (Tryz.ckIndex c hl h) ?_
  (refine ev ?_; try with_reducible exact trivial)
set_option maxRecDepth 100000 in
set_option maxHeartbeats 16000000 in
theorem Tryz.ckCycle (l : List Rl) (c : List Nat) (hl : l.length ≤ 200) (hcl : c.length ≤ 200) (hk : ∀ x ∈ l, 1 ≤ x.k ∧ x.k ≤ 4) (hc : CycOk l c) : Con Tryz.prog Tryz.L 9 [relsD l, .sl c.length (ints .i64 (c.map fun x : Nat => (x : Int)))] (.bool true) := by
  have mixed : Tryz.prog.follows .mixedOrders = true := by kernel_rfl
  have t1 := Tryz.underlying9; have a1 := Tryz.isAgg9; have z1 := Tryz.sizeOf9; have v1 := Tryz.zeroValue9; have u1 := run_underlying Tryz.underlying9
  have t2 := Tryz.underlying42; have a2 := Tryz.isAgg42; have z2 := Tryz.sizeOf42; have v2 := Tryz.zeroValue42; have u2 := run_underlying Tryz.underlying42
  have t3 := Tryz.underlying4; have a3 := Tryz.isAgg4; have z3 := Tryz.sizeOf4; have v3 := Tryz.zeroValue4; have u3 := run_underlying Tryz.underlying4
  have t4 := Tryz.underlying3; have a4 := Tryz.isAgg3; have z4 := Tryz.sizeOf3; have v4 := Tryz.zeroValue3; have u4 := run_underlying Tryz.underlying3
  have t5 := Tryz.underlying24; have a5 := Tryz.isAgg24; have z5 := Tryz.sizeOf24; have v5 := Tryz.zeroValue24
  have t6 := Tryz.underlying26
  have t10 := Tryz.underlying51
  have rmm : ∀ w : World, (Instr.makeMap 51 none).run Tryz.prog w = .ok (.map (some w.heap.size)) (w.alloc (.map #[] 0)) := fun w => rfl
  refine ⟨⟨by kernel_rfl, rfl⟩, fun S W vs hS hL hrep => ?_⟩
  obtain ⟨va, r1, rfl, hra, t1'⟩ := hrep.uncons
  obtain ⟨vb, r2, rfl, hrb, t2'⟩ := t1'.uncons
  obtain rfl : r2 = [] := List.length_eq_zero_iff.1 t2'.1.symm
  clear t1' t2' hrep
  obtain ⟨ad, cap, rfl, HC⟩ := rel_cells hra
  obtain ⟨ado, capo, rfl, HO⟩ := sl_get hrb (by intro e; obtain ⟨x, _, hx⟩ := List.mem_map.1 e; cases hx)
  have HC' : Hid (∀ j x, l[j]? = some x → ∃ b off, ad = some ⟨b, off, none⟩ ∧ b < W.heap.size ∧ W.cell? ⟨b, off + j * 3, none⟩ = some (.int .i64 x.k) ∧ W.cell? ⟨b, off + j * 3 + 1, none⟩ = some (.string ⟨x.u.toArray⟩) ∧ W.cell? ⟨b, off + j * 3 + 2, none⟩ = some (.string ⟨x.l.toArray⟩) ∧ x.u.length ≤ maxLen ∧ x.l.length ≤ maxLen) := by
    intro j x hj
    obtain ⟨b, off, e1, e2, e3, e4, e5, e6⟩ := HC j x hj
    exact ⟨b, off, e1, hS b _ (e2 0 (by decide)), e3, e4, e5, e6⟩
  have HO' : Hid (∀ (j x : Nat), c[j]? = some x → ∃ b off, ado = some ⟨b, off, none⟩ ∧ b < W.heap.size ∧ W.cell? ⟨b, off + j, none⟩ = some (.int .i64 x)) := by
    intro j x hj
    obtain ⟨b, off, u, e1, e2, e3, e4⟩ := HO j (.int .i64 x) (by simp [ints, hj])
    cases e4
    exact ⟨b, off, e1, hS b _ e2, e3⟩
  have HS : Hid (∀ b j, S b j → b < W.heap.size) := hS
  have HK : Hid (CycOk l c) := hc
  have hcn := hc.pos
  have hb2 := heap_alloc_new W (.cells #[.slice ad l.length cap] 24)
  have hcon : Calls Tryz.prog 19 #[.slice ado c.length capo, .func (.func 20) #[] #[.pointer (some ⟨W.heap.size, 0, none⟩)]] (W.alloc (.cells #[.slice ad l.length cap] 24)) fun e w' => e = .returned (.bool false) ∧ Below (W.alloc (.cells #[.slice ad l.length cap] 24)).heap.size (W.alloc (.cells #[.slice ad l.length cap] 24)) w' := by
    have hbw : Below W.heap.size W (W.alloc (.cells #[.slice ad l.length cap] 24)) := (Below.refl _ _).alloc (Nat.le_refl _) _
    have hbox : BoxV (W.alloc (.cells #[.slice ad l.length cap] 24)) W.heap.size 24 #[.slice ad l.length cap] := hb2
    have hR2 : Rep (FS S W (W.alloc (.cells #[.slice ad l.length cap] 24))) (W.alloc (.cells #[.slice ad l.length cap] 24)) (relsD l) (.slice ad l.length cap) := hra.mono (fun b j hs => .inl hs) fun b j hs => hbw.cell (p := ⟨b, j, none⟩) (hS b j hs)
    have hR3 : Rep (FS S W (W.alloc (.cells #[.slice ad l.length cap] 24))) (W.alloc (.cells #[.slice ad l.length cap] 24)) (.pt [relsD l]) (.pointer (some ⟨W.heap.size, 0, none⟩)) := rep_pt1 hbox (fun j => .inr ⟨Nat.le_refl _, hbox.lt⟩) rfl (by simp [D.one]) fun i d v hd hv => by
      match i with
      | 0 => cases hd; cases hv; exact hR2
      | i + 1 => simp at hd
    have hR4 : Rep (FS S W (W.alloc (.cells #[.slice ad l.length cap] 24))) (W.alloc (.cells #[.slice ad l.length cap] 24)) (.sl c.length (ints .i64 (c.map fun x : Nat => (x : Int)))) (.slice ado c.length capo) := hrb.mono (fun b j hs => .inl hs) fun b j hs => hbw.cell (p := ⟨b, j, none⟩) (hS b j hs)
    refine Calls.mono ((Tryz.ckContains (f := 20) (caps := [.pt [relsD l]]) c (by omega) (fun i hi => by
      obtain ⟨x, hx, hx4⟩ := hc.arc i hi
      exact Tryz.ckClo l hl hk hx hx4)).2 (FS S W (W.alloc (.cells #[.slice ad l.length cap] 24))) _ [.slice ado c.length capo, .func (.func 20) #[] #[.pointer (some ⟨W.heap.size, 0, none⟩)]] (FS.lt hS hbw) trivial (Reps.cons hR4 (Reps.cons (.clo _ [.pt [relsD l]] [.pointer (some ⟨W.heap.size, 0, none⟩)] rfl fun i d v hd hv => by
        match i with
        | 0 => cases hd; cases hv; exact hR3
        | i + 1 => simp at hd) .nil))) ?_
    rintro e w' ⟨v, rfl, h1, h2⟩
    cases h2
    exact ⟨rfl, h1⟩
  have HB2 : Hid (BoxV (W.alloc (.cells #[.slice ad l.length cap] 24)) W.heap.size 24 #[.slice ad l.length cap] ∧ Below W.heap.size W (W.alloc (.cells #[.slice ad l.length cap] 24))) := ⟨hb2, (Below.refl _ _).alloc (Nat.le_refl _) _⟩
  clear HC HO hra hrb hS hk hc hb2
  show Calls _ _ #[.slice ad l.length cap, .slice ado c.length capo] _ _
  go_enter Tryz.func9, Tryz.ntmps9
  have hz0 : ((c.length : Int) == 0) = false := beq_eq_false_iff_ne.2 (by omega)
  have hz1 : ¬(c.length : Int) = 0 := by omega
  have hz2 : ¬c.length = 0 := by omega
  have hz3 : ¬c = [] := by intro e; rw [e] at hcn; simp at hcn
  go_wp2_with (go_at_call 19; refine Calls.mono hcon ?_; rintro e W3 ⟨rfl, hb3⟩; have HB3 : Hid (BoxV W3 W.heap.size 24 #[.slice ad l.length cap] ∧ Below W.heap.size W W3) := ⟨HB2.out.1.kept (GrX.ofBelow (X := fun _ => False) hb3) id, HB2.out.2.trans (hb3.mono HB2.out.2.size)⟩; clear hb3 hcon)
  have hm0 := MapB.made W3 Tryz.prog 9 4
  rw [← seenK_zero l c] at hm0
  go_loopg [20] c.length (fun gg s20 wr => ∃ k : Nat, s20 = .int .i64 k ∧ k ≤ c.length ∧ c.length ≤ gg + k ∧ MapB Tryz.prog 9 4 wr W3.heap.size k (seenK l c k) ∧ BoxV wr W.heap.size 24 #[.slice ad l.length cap] ∧ Below W.heap.size W wr)
  case atStart => exact ⟨0, rfl, by omega, by omega, hm0, HB3.out.1.kept (X := fun _ => False) (.alloc _ _) id, HB3.out.2.alloc HB3.out.2.size _⟩
  case round =>
    clear hm0
    obtain ⟨k, rfl, hkn, hgk, hmap, hbox, hbw⟩ := hrel
    by_cases hkl : k < c.length
    · have hkz : (k : Int) < (c.length : Int) := by omega
      obtain ⟨m, hm⟩ : ∃ m, m = k + c.length - 1 := ⟨_, rfl⟩
      have hj : c[k]? = some (c[k]'hkl) := List.getElem?_eq_getElem hkl
      generalize c[k]'hkl = j at hj
      have hmn : m % c.length < c.length := Nat.mod_lt _ hcn
      have hi : c[m % c.length]? = some (c[m % c.length]'hmn) := List.getElem?_eq_getElem hmn
      generalize c[m % c.length]'hmn = i at hi
      obtain ⟨y, hy, hy4⟩ := HK.out.arc j (List.mem_of_getElem? hj)
      obtain ⟨x, hx, hx4⟩ := HK.out.arc i (List.mem_of_getElem? hi)
      have hxy : x.u = y.l := HK.out.next k i j x y (by rw [← hm]; exact hi) hj hx hy
      have hno := seenK_no HK.out hj hy
      have hil := (List.getElem?_eq_some_iff.1 hx).1
      have hjl := (List.getElem?_eq_some_iff.1 hy).1
      have hiz : (i : Int) < (l.length : Int) := by omega
      have hjz : (j : Int) < (l.length : Int) := by omega
      obtain ⟨b, off, rfl, hb, _, _, e7, _, e9⟩ := HC'.out j y hy
      obtain ⟨b', off', eb, _, _, e6, _, e8, _⟩ := HC'.out i x hx
      cases eb
      rw [hxy] at e6
      obtain ⟨bo, oo, rfl, hbo, w1⟩ := HO'.out k j hj
      obtain ⟨bo', oo', eb, _, w2⟩ := HO'.out (m % c.length) i hi
      cases eb
      have d1 := (hbw.cell (p := ⟨bo, oo + k, none⟩) hbo).trans w1
      have d2 := (hbw.cell (p := ⟨bo, oo + m % c.length, none⟩) hbo).trans w2
      have d3 := (hbw.cell (p := ⟨b, off + i * 3 + 1, none⟩) hb).trans e6
      have d4 := (hbw.cell (p := ⟨b, off + j * 3 + 2, none⟩) hb).trans e7
      have d5 := hbox.cell (j := 0) rfl
      have d6 : wr.cell? ⟨W.heap.size, 0, none⟩ = some (.slice (some ⟨b, off, none⟩) l.length cap) := d5
      have l1 := Nat.lt_of_lt_of_le hb hbw.size
      have l2 := Nat.lt_of_lt_of_le hbo hbw.size
      have l3 := hbox.lt
      have l4 := hmap.lt
      have n1 : IntKind.i64.wrap ((k : Int) + (c.length : Int)) = (k : Int) + (c.length : Int) := by rw [IntKind.wrap_i64]; omega
      have n2 : IntKind.i64.wrap ((k : Int) + (c.length : Int) - 1) = (m : Int) := by rw [IntKind.wrap_i64]; omega
      have n3 : ((m : Int) % (c.length : Int)).toNat = m % c.length := by
        rw [← Int.natCast_emod, Int.toNat_natCast]
      have n4 : (0 : Int) ≤ (m : Int) % (c.length : Int) := Int.emod_nonneg _ (by omega)
      have n5 : (m : Int) % (c.length : Int) < (c.length : Int) := Int.emod_lt_of_pos _ (by omega)
      have lk1 : ∀ w : World, MapB Tryz.prog 9 4 w W3.heap.size k (seenK l c k) → (Instr.lookup 51 (.map (some W3.heap.size)) (.string ⟨y.l.toArray⟩) false).run Tryz.prog w = .ok (.bool false) w := fun w h => by
        rw [h.look (t := 51) t1 t3 t10 (v3 w) e9, hno]
      have mkd : MapB Tryz.prog 9 4 wr.drew W3.heap.size k (seenK l c k) := hmap
      obtain ⟨w5, hput, hm5, hg5⟩ := mkd.put (t := 51) t1 t3 t10 (by unfold maxLen; omega) e9 true
      rw [seenK_succ hj hy] at hm5
      have HE : Hid (MapB Tryz.prog 9 4 w5 W3.heap.size (k + 1) (seenK l c (k + 1)) ∧ wr.drew.grownBy w5 (some W3.heap.size) ∧ BoxV wr.drew W.heap.size 24 #[.slice (some ⟨b, off, none⟩) l.length cap] ∧ Below W.heap.size W wr.drew) := ⟨hm5, hg5, hbox, hbw.drew⟩
      have HMM : Hid (W3.heap.size ≠ W.heap.size ∧ W.heap.size ≤ W3.heap.size) := ⟨hmap.ne_box hbox, HB3.out.2.size⟩
      clear hmap hbox hbw hm5 hg5 hj hi hx hy hxy hno hm w1 w2 e6 e7 d5
      go_wp2_with fail
      apply wp_merge (fun a w => a = _ ∧ w = _)
      ·
        go_region_held3 (fun w' => w'.cell? ⟨W.heap.size, 0, none⟩ = some (.slice (some ⟨b, off, none⟩) l.length cap) ∧ w'.cell? ⟨b, off + i * 3 + 1, none⟩ = some (.string ⟨y.l.toArray⟩) ∧ w'.cell? ⟨b, off + j * 3 + 2, none⟩ = some (.string ⟨y.l.toArray⟩) ∧ MapB Tryz.prog 9 4 w' W3.heap.size k (seenK l c k)) (go_keep) (fail)
        all_goals exact ⟨rfl, rfl⟩
      · rintro _ _ ⟨rfl, rfl⟩
        go_wp2
        go_roundg (c.length - (k + 1))
        case measure => omega
        case rel =>
          obtain ⟨h1, h2, h3, h4⟩ := HE.out
          have hgx : GrX (fun q => some q = some W3.heap.size) wr.drew w5 := .ofGrown h2
          refine ⟨k + 1, by go_num, by omega, by omega, h1, h3.kept hgx (fun e => HMM.out.1 (by injection e with e; exact e.symm)), hgx.below h4 (fun q hq => by injection hq with hq; subst hq; exact HMM.out.2) h4.size⟩
    · obtain rfl : k = c.length := by omega
      have HP : Hid (Below W.heap.size W wr) := hbw
      clear hmap hbox hbw
      go_wp2
      go_ret
      exact ⟨_, rfl, HP.out, .bool _⟩
end Go.Proofs

/-
  CERTIFICATES: contracts of library functions at the few data at which known() calls them. Own work.
-/
namespace Go.Proofs
open Go Go.Pi Go.RowKit Go.Shelf Go.Tp Go.Lib
theorem Tryz.oIndex (s : List UInt8) (c : UInt8) (r : Int) (h : Lib.indexByte s c = r) : Con Tryz.prog Tryz.L 110 [.str s, .str [c]] (.int .i64 r) := by
  refine ⟨⟨by kernel_rfl, rfl⟩, fun S W vs hS hL hrep => ?_⟩
  obtain ⟨va, r1, rfl, hra, t1⟩ := hrep.uncons
  obtain ⟨vb, r2, rfl, hrb, t2⟩ := t1.uncons
  obtain rfl : r2 = [] := List.length_eq_zero_iff.1 t2.1.symm
  obtain ⟨rfl, _⟩ := hra.str_inv
  obtain ⟨rfl, _⟩ := hrb.str_inv
  refine Calls.mono (Tryz.stringslite_Index_one ⟨s.toArray⟩ c W) ?_
  rintro e w' ⟨rfl, rfl⟩
  refine ⟨_, rfl, Below.refl _ _, ?_⟩
  rw [show (⟨s.toArray⟩ : ByteArray).data.toList = s by simp, h]
  exact .int _ _
theorem Tryz.oCount (s : List UInt8) (c : UInt8) (r : Int) (h : (Lib.countByte s c : Int) = r) : Con Tryz.prog Tryz.L 90 [.str s, .str [c]] (.int .i64 r) := by
  refine ⟨⟨by kernel_rfl, rfl⟩, fun S W vs hS hL hrep => ?_⟩
  obtain ⟨va, r1, rfl, hra, t1⟩ := hrep.uncons
  obtain ⟨vb, r2, rfl, hrb, t2⟩ := t1.uncons
  obtain rfl : r2 = [] := List.length_eq_zero_iff.1 t2.1.symm
  obtain ⟨rfl, _⟩ := hra.str_inv
  obtain ⟨rfl, _⟩ := hrb.str_inv
  refine Calls.mono (Tryz.strings_Count_one ⟨s.toArray⟩ c W) ?_
  rintro e w' ⟨rfl, rfl⟩
  refine ⟨_, rfl, Below.refl _ _, ?_⟩
  rw [show (⟨s.toArray⟩ : ByteArray).data.toList = s by simp, h]
  exact .int _ _
theorem Tryz.oLen64 (x : Nat) (r : Nat) (hx : x ≤ 1000) (h : Lib.bitLen x = r) : Con Tryz.prog Tryz.L 88 [.int .u64 x] (.int .i64 r) := by
  refine ⟨⟨by kernel_rfl, rfl⟩, fun S W vs hS hL hrep => ?_⟩
  obtain ⟨va, r1, rfl, hra, t1⟩ := hrep.uncons
  obtain rfl : r1 = [] := List.length_eq_zero_iff.1 t1.1.symm
  cases hra
  refine Calls.mono (Tryz.bits_Len64 x W (by omega) (by omega)) ?_
  rintro e w' ⟨rfl, rfl⟩
  refine ⟨_, rfl, Below.refl _ _, ?_⟩
  rw [Int.toNat_natCast, h]
  exact .int _ _
theorem rep_one {S : Nat → Nat → Prop} {W : World} {b e : Nat} {x : Int} (h : W.heap[b]? = some (.cells #[.int .u32 x] e (0, 0))) (hS : S b 0) : Rep S W (.sl 1 [.int .u32 x]) (.slice (some ⟨b, 0, none⟩) 1 1) := by
  refine .sl 1 [.int .u32 x] b 0 1 [.int .u32 x] rfl (by simp [D.one]) (Nat.le_refl _) (by decide) (fun i u hi => ?_) fun i d u hd hu => ?_
  · match i with
    | 0 => cases hi; exact ⟨hS, by rw [Lib.cell_of_heap h]; rfl⟩
    | i + 1 => simp at hi
  · match i with
    | 0 => cases hd; cases hu; exact .int _ _
    | i + 1 => simp at hd
theorem rep_tupI {S : Nat → Nat → Prop} {W : World} {a b a' b' : Int} (ha : a' = a) (hb : b' = b) : Rep S W (.tup [.int .u32 a, .int .u32 b]) (.tuple #[.int .u32 a', .int .u32 b']) := by
  subst ha; subst hb
  exact .tup _ [.int .u32 a', .int .u32 b'] rfl fun i d v hd hv => by
      match i with
      | 0 => cases hd; cases hv; exact .int _ _
      | 1 => cases hd; cases hv; exact .int _ _
      | i + 2 => simp at hd
set_option maxRecDepth 100000 in
theorem Tryz.oAdd (x : Nat) (hx : x ≤ 100) : Con Tryz.prog Tryz.L 111 [.int .u32 x, .int .u32 0, .int .u32 0] (.tup [.int .u32 x, .int .u32 0]) := by
  have mixed : Tryz.prog.follows .mixedOrders = true := by kernel_rfl
  have t1 := Tryz.underlying110; have t2 := Tryz.underlying142
  refine ⟨⟨by kernel_rfl, rfl⟩, fun S W vs hS hL hrep => ?_⟩
  obtain ⟨va, r1, rfl, hra, t1'⟩ := hrep.uncons
  obtain ⟨vb, r2, rfl, hrb, t2'⟩ := t1'.uncons
  obtain ⟨vc, r3, rfl, hrc, t3'⟩ := t2'.uncons
  obtain rfl : r3 = [] := List.length_eq_zero_iff.1 t3'.1.symm
  cases hra; cases hrb; cases hrc
  show Calls _ _ #[.int .u32 x, .int .u32 0, .int .u32 0] _ _
  have e1 : IntKind.u64.wrap (x : Int) = (x : Int) := by rw [IntKind.wrap_u64]; omega
  have e2 : IntKind.u32.wrap (x : Int) = (x : Int) := by rw [IntKind.wrap_u32]; omega
  go_enter Tryz.func111, Tryz.ntmps111
  go_wp2
  go_ret2
  exact ⟨_, rfl, Below.refl _ _, rep_tupI rfl (by omega)⟩
set_option maxRecDepth 100000 in
theorem Tryz.oSub11 : Con Tryz.prog Tryz.L 112 [.int .u32 1, .int .u32 1, .int .u32 0] (.tup [.int .u32 0, .int .u32 0]) := by
  have mixed : Tryz.prog.follows .mixedOrders = true := by kernel_rfl
  have t1 := Tryz.underlying110; have t2 := Tryz.underlying142
  refine ⟨⟨by kernel_rfl, rfl⟩, fun S W vs hS hL hrep => ?_⟩
  obtain ⟨va, r1, rfl, hra, t1'⟩ := hrep.uncons
  obtain ⟨vb, r2, rfl, hrb, t2'⟩ := t1'.uncons
  obtain ⟨vc, r3, rfl, hrc, t3'⟩ := t2'.uncons
  obtain rfl : r3 = [] := List.length_eq_zero_iff.1 t3'.1.symm
  cases hra; cases hrb; cases hrc
  show Calls _ _ #[.int .u32 1, .int .u32 1, .int .u32 0] _ _
  go_enter Tryz.func112, Tryz.ntmps112
  go_wp2
  all_goals go_ret2
  all_goals exact ⟨_, rfl, Below.refl _ _, rep_tupI rfl (by decide)⟩
set_option maxRecDepth 100000 in
theorem Tryz.oSub31 : Con Tryz.prog Tryz.L 112 [.int .u32 3, .int .u32 1, .int .u32 0] (.tup [.int .u32 2, .int .u32 0]) := by
  have mixed : Tryz.prog.follows .mixedOrders = true := by kernel_rfl
  have t1 := Tryz.underlying110; have t2 := Tryz.underlying142
  refine ⟨⟨by kernel_rfl, rfl⟩, fun S W vs hS hL hrep => ?_⟩
  obtain ⟨va, r1, rfl, hra, t1'⟩ := hrep.uncons
  obtain ⟨vb, r2, rfl, hrb, t2'⟩ := t1'.uncons
  obtain ⟨vc, r3, rfl, hrc, t3'⟩ := t2'.uncons
  obtain rfl : r3 = [] := List.length_eq_zero_iff.1 t3'.1.symm
  cases hra; cases hrb; cases hrc
  show Calls _ _ #[.int .u32 3, .int .u32 1, .int .u32 0] _ _
  go_enter Tryz.func112, Tryz.ntmps112
  go_wp2
  all_goals go_ret2
  all_goals exact ⟨_, rfl, Below.refl _ _, rep_tupI rfl (by decide)⟩
set_option maxRecDepth 100000 in
theorem Tryz.oSub33 : Con Tryz.prog Tryz.L 112 [.int .u32 3, .int .u32 3, .int .u32 0] (.tup [.int .u32 0, .int .u32 0]) := by
  have mixed : Tryz.prog.follows .mixedOrders = true := by kernel_rfl
  have t1 := Tryz.underlying110; have t2 := Tryz.underlying142
  refine ⟨⟨by kernel_rfl, rfl⟩, fun S W vs hS hL hrep => ?_⟩
  obtain ⟨va, r1, rfl, hra, t1'⟩ := hrep.uncons
  obtain ⟨vb, r2, rfl, hrb, t2'⟩ := t1'.uncons
  obtain ⟨vc, r3, rfl, hrc, t3'⟩ := t2'.uncons
  obtain rfl : r3 = [] := List.length_eq_zero_iff.1 t3'.1.symm
  cases hra; cases hrb; cases hrc
  show Calls _ _ #[.int .u32 3, .int .u32 3, .int .u32 0] _ _
  go_enter Tryz.func112, Tryz.ntmps112
  go_wp2
  all_goals go_ret2
  all_goals exact ⟨_, rfl, Below.refl _ _, rep_tupI rfl (by decide)⟩
set_option maxRecDepth 100000 in
set_option maxHeartbeats 4000000 in
theorem Tryz.oHalf2 : Con Tryz.prog Tryz.L 75 [.sl 1 [.int .u32 2]] (.sl 1 [.int .u32 1]) := by
  have mixed : Tryz.prog.follows .mixedOrders = true := by kernel_rfl
  have t1 := Tryz.underlying110; have a1 := Tryz.isAgg110; have z1 := Tryz.sizeOf110
  have t2 := Tryz.underlying67; have t4 := Tryz.underlying3
  have hip : (Tryz.prog.info? 110).map (fun i => (i.zero, i.size, i.bytes)) = some (some (.int .u32 0), 1, 4) := by kernel_rfl
  obtain ⟨ip, hip1, hip2, hip3, hip4⟩ := info_parts hip
  refine ⟨⟨by kernel_rfl, rfl⟩, fun S W vs hS hL hrep => ?_⟩
  obtain ⟨va, r1, rfl, hra, t1'⟩ := hrep.uncons
  obtain rfl : r1 = [] := List.length_eq_zero_iff.1 t1'.1.symm
  obtain ⟨ad, cap, rfl, hg⟩ := sl_get hra (by simp)
  obtain ⟨b, off, u, rfl, s1, c1, r1⟩ := hg 0 (.int .u32 2) rfl
  cases r1
  rw [Nat.add_zero] at c1
  have lb := hS _ _ s1
  have HS : Hid (∀ b j, S b j → b < W.heap.size) := hS
  clear hg hra hrep t1' hS s1
  have hmk := run_makeSlice W 67 110 ip (.int .u32 0) t2 hip1 hip2 .i64 .i64 (1 : Int) (1 : Int) (by omega) (by omega) (by rw [hip3]; omega) (by rw [hip4]; omega) (by omega)
  rw [hip3] at hmk
  have hA : madeCells #[Value.int .u32 0] 1 = #[.int .u32 0] := by kernel_rfl
  show Calls _ _ #[.slice (some ⟨b, off, none⟩) 1 cap] _ _
  go_enter Tryz.func75, Tryz.ntmps75
  go_wp2

  go_rounds 2
  go_rounds 2
  go_ret
  exact ⟨_, rfl, (Below.refl _ _).alloc (Nat.le_refl _) _, rep_one (x := 1) (heap_alloc_new W _) (.inr ⟨Nat.le_refl _, by simp⟩)⟩
set_option maxRecDepth 100000 in
set_option maxHeartbeats 4000000 in
theorem Tryz.oHalf6 : Con Tryz.prog Tryz.L 75 [.sl 1 [.int .u32 6]] (.sl 1 [.int .u32 3]) := by
  have mixed : Tryz.prog.follows .mixedOrders = true := by kernel_rfl
  have t1 := Tryz.underlying110; have a1 := Tryz.isAgg110; have z1 := Tryz.sizeOf110
  have t2 := Tryz.underlying67; have t4 := Tryz.underlying3
  have hip : (Tryz.prog.info? 110).map (fun i => (i.zero, i.size, i.bytes)) = some (some (.int .u32 0), 1, 4) := by kernel_rfl
  obtain ⟨ip, hip1, hip2, hip3, hip4⟩ := info_parts hip
  refine ⟨⟨by kernel_rfl, rfl⟩, fun S W vs hS hL hrep => ?_⟩
  obtain ⟨va, r1, rfl, hra, t1'⟩ := hrep.uncons
  obtain rfl : r1 = [] := List.length_eq_zero_iff.1 t1'.1.symm
  obtain ⟨ad, cap, rfl, hg⟩ := sl_get hra (by simp)
  obtain ⟨b, off, u, rfl, s1, c1, r1⟩ := hg 0 (.int .u32 6) rfl
  cases r1
  rw [Nat.add_zero] at c1
  have lb := hS _ _ s1
  have HS : Hid (∀ b j, S b j → b < W.heap.size) := hS
  clear hg hra hrep t1' hS s1
  have hmk := run_makeSlice W 67 110 ip (.int .u32 0) t2 hip1 hip2 .i64 .i64 (1 : Int) (1 : Int) (by omega) (by omega) (by rw [hip3]; omega) (by rw [hip4]; omega) (by omega)
  rw [hip3] at hmk
  have hA : madeCells #[Value.int .u32 0] 1 = #[.int .u32 0] := by kernel_rfl
  show Calls _ _ #[.slice (some ⟨b, off, none⟩) 1 cap] _ _
  go_enter Tryz.func75, Tryz.ntmps75
  go_wp2

  go_rounds 2
  go_rounds 2
  go_ret
  exact ⟨_, rfl, (Below.refl _ _).alloc (Nat.le_refl _) _, rep_one (x := 3) (heap_alloc_new W _) (.inr ⟨Nat.le_refl _, by simp⟩)⟩
set_option maxRecDepth 100000 in
set_option maxHeartbeats 4000000 in
theorem Tryz.oMul : Con Tryz.prog Tryz.L 71 [.sl 0 [], .sl 1 [.int .u32 10]] (.sl 0 []) := by
  have mixed : Tryz.prog.follows .mixedOrders = true := by kernel_rfl
  have t1 := Tryz.underlying110; have a1 := Tryz.isAgg110; have z1 := Tryz.sizeOf110
  have t2 := Tryz.underlying67; have t4 := Tryz.underlying3; have t5 := Tryz.underlying142
  have hip : (Tryz.prog.info? 110).map (fun i => (i.zero, i.size, i.bytes)) = some (some (.int .u32 0), 1, 4) := by kernel_rfl
  obtain ⟨ip, hip1, hip2, hip3, hip4⟩ := info_parts hip
  refine ⟨⟨by kernel_rfl, rfl⟩, fun S W vs hS hL hrep => ?_⟩
  obtain ⟨va, r1, rfl, hra, t1'⟩ := hrep.uncons
  obtain ⟨vb, r2, rfl, hrb, t2'⟩ := t1'.uncons
  obtain rfl : r2 = [] := List.length_eq_zero_iff.1 t2'.1.symm
  obtain ⟨ad, cap, rfl, _⟩ := sl_get hra (by simp)
  obtain ⟨ad2, cap2, rfl, _⟩ := sl_get hrb (by simp)
  have HS : Hid (∀ b j, S b j → b < W.heap.size) := hS
  clear hra hrb hrep t1' t2' hS
  have hmk := run_makeSlice W 67 110 ip (.int .u32 0) t2 hip1 hip2 .i64 .i64 (1 : Int) (1 : Int) (by omega) (by omega) (by rw [hip3]; omega) (by rw [hip4]; omega) (by omega)
  rw [hip3] at hmk
  have hA : madeCells #[Value.int .u32 0] 1 = #[.int .u32 0] := by kernel_rfl
  show Calls _ _ #[.slice ad 0 cap, .slice ad2 1 cap2] _ _
  go_enter Tryz.func71, Tryz.ntmps71
  go_wp2
  go_rounds 1
  go_rounds 3
  go_ret
  exact ⟨_, rfl, (Below.refl _ _).alloc (Nat.le_refl _) _, .sl0 _ _ (by decide)⟩
set_option maxRecDepth 100000 in
set_option maxHeartbeats 4000000 in
theorem Tryz.oCompA (a b : List UInt8) : Con Tryz.prog Tryz.L 48 [.sl 1 [.str a, .str b]] (.sl 1 [.str a, .str b]) := by
  have mixed : Tryz.prog.follows .mixedOrders = true := by kernel_rfl
  have t2 := Tryz.underlying59; have t4 := Tryz.underlying3
  refine ⟨⟨by kernel_rfl, rfl⟩, fun S W vs hS hL hrep => ?_⟩
  obtain ⟨va, r1, rfl, hra, t1'⟩ := hrep.uncons
  obtain rfl : r1 = [] := List.length_eq_zero_iff.1 t1'.1.symm
  obtain ⟨ad, cap, rfl, _⟩ := sl_get hra (by simp)
  have HR : Hid (Rep S W (.sl 1 [.str a, .str b]) (.slice ad 1 cap)) := hra
  clear hra hrep t1' hS
  show Calls _ _ #[.slice ad 1 cap] _ _
  go_enter Tryz.func48, Tryz.ntmps48
  go_wp2
  go_ret
  exact ⟨_, rfl, Below.refl _ _, HR.out.mono (fun b j h => .inl h) fun _ _ _ => rfl⟩
end Go.Proofs

/-
  CERTIFICATES: relation.Normal at the data at which known() calls it. Own work.
-/
namespace Go.Tp
open Go Go.Pi Go.RowKit
theorem rep_agg3 {S : Nat → Nat → Prop} {W : World} (k : Int) (u l : List UInt8) (hu : u.length ≤ maxLen) (hl : l.length ≤ maxLen) : Rep S W (.agg [.int .i64 k, .str u, .str l]) (.agg #[.int .i64 k, .string ⟨u.toArray⟩, .string ⟨l.toArray⟩]) :=
  .agg _ [.int .i64 k, .string ⟨u.toArray⟩, .string ⟨l.toArray⟩] rfl (by simp [D.one]) fun i d v hd hv => by
    match i with
    | 0 => cases hd; cases hv; exact .int _ _
    | 1 => cases hd; cases hv; exact .str _ hu
    | 2 => cases hd; cases hv; exact .str _ hl
    | i + 3 => simp at hd
end Go.Tp
namespace Go.Proofs
open Go Go.Pi Go.RowKit Go.Shelf Go.Tp Go.Lib
set_option maxRecDepth 100000 in
set_option maxHeartbeats 8000000 in
theorem Tryz.oIns (w0 W : World) (g cap : Nat) (hown : W.ownsRow w0.heap.size 42 3 (.slice (some ⟨g, 0, none⟩) 3 cap) 3 [.int .i64 4, .string ⟨#[97]⟩, .string ⟨#[98]⟩, .int .i64 2, .string ⟨#[99]⟩, .string ⟨#[97]⟩, .int .i64 4, .string ⟨#[97]⟩, .string ⟨#[98]⟩])
    (hc1 : Con Tryz.prog Tryz.L 51 [.agg [.int .i64 2, .str [99], .str [97]], .agg [.int .i64 4, .str [97], .str [98]]] (.int .i64 (-1)))
    (hc2 : Con Tryz.prog Tryz.L 51 [.agg [.int .i64 4, .str [97], .str [98]], .agg [.int .i64 4, .str [97], .str [98]]] (.int .i64 0)) :
    Calls Tryz.prog 100 #[.slice (some ⟨g, 0, none⟩) 3 cap, .int .i64 0, .int .i64 3, .func (.func 51) #[] #[]] W fun e W' => e = .returned (.tuple #[]) ∧ W'.ownsRow w0.heap.size 42 3 (.slice (some ⟨g, 0, none⟩) 3 cap) 3 [.int .i64 2, .string ⟨#[99]⟩, .string ⟨#[97]⟩, .int .i64 4, .string ⟨#[97]⟩, .string ⟨#[98]⟩, .int .i64 4, .string ⟨#[97]⟩, .string ⟨#[98]⟩] ∧ W.grownBy W' (some g) := by
  have mixed : Tryz.prog.follows .mixedOrders = true := by kernel_rfl
  have t0 := Tryz.underlying24; have a0 := Tryz.isAgg24; have z0 := Tryz.sizeOf24; have v0 := Tryz.zeroValue24; have u0 := run_underlying Tryz.underlying24
  have t1 := Tryz.underlying42; have a1 := Tryz.isAgg42; have z1 := Tryz.sizeOf42; have v1 := Tryz.zeroValue42; have u1 := run_underlying Tryz.underlying42
  have t3 := Tryz.underlying4
  have t4 := Tryz.underlying3
  have q1 : ∀ w : World, Calls Tryz.prog 51 #[.agg #[.int .i64 2, .string ⟨#[99]⟩, .string ⟨#[97]⟩], .agg #[.int .i64 4, .string ⟨#[97]⟩, .string ⟨#[98]⟩]] w fun e w' => e = .returned (.int .i64 (-1)) ∧ Below w.heap.size w w' := fun w => by
    refine Calls.mono (hc1.2 (fun _ _ => False) w [.agg #[.int .i64 2, .string ⟨#[99]⟩, .string ⟨#[97]⟩], .agg #[.int .i64 4, .string ⟨#[97]⟩, .string ⟨#[98]⟩]] (fun _ _ h => h.elim) trivial (Reps.cons (rep_agg3 2 [99] [97] (by decide) (by decide)) (Reps.cons (rep_agg3 4 [97] [98] (by decide) (by decide)) .nil))) ?_
    rintro e w' ⟨v, rfl, h1, h2⟩
    cases h2
    exact ⟨rfl, h1⟩
  have q2 : ∀ w : World, Calls Tryz.prog 51 #[.agg #[.int .i64 4, .string ⟨#[97]⟩, .string ⟨#[98]⟩], .agg #[.int .i64 4, .string ⟨#[97]⟩, .string ⟨#[98]⟩]] w fun e w' => e = .returned (.int .i64 0) ∧ Below w.heap.size w w' := fun w => by
    refine Calls.mono (hc2.2 (fun _ _ => False) w [.agg #[.int .i64 4, .string ⟨#[97]⟩, .string ⟨#[98]⟩], .agg #[.int .i64 4, .string ⟨#[97]⟩, .string ⟨#[98]⟩]] (fun _ _ h => h.elim) trivial (Reps.cons (rep_agg3 4 [97] [98] (by decide) (by decide)) (Reps.cons (rep_agg3 4 [97] [98] (by decide) (by decide)) .nil))) ?_
    rintro e w' ⟨v, rfl, h1, h2⟩
    cases h2
    exact ⟨rfl, h1⟩
  have c0 := hown.cellAt 0 (by omega)
  have c1 := hown.cellAt 1 (by omega)
  have c2 := hown.cellAt 2 (by omega)
  have c3 := hown.cellAt 3 (by omega)
  have c4 := hown.cellAt 4 (by omega)
  have c5 := hown.cellAt 5 (by omega)
  simp only [List.getElem?_cons_zero, List.getElem?_cons_succ] at c0 c1 c2 c3 c4 c5
  have HH : Hid (W.ownsRow w0.heap.size 42 3 (.slice (some ⟨g, 0, none⟩) 3 cap) 3 [.int .i64 4, .string ⟨#[97]⟩, .string ⟨#[98]⟩, .int .i64 2, .string ⟨#[99]⟩, .string ⟨#[97]⟩, .int .i64 4, .string ⟨#[97]⟩, .string ⟨#[98]⟩]) := hown
  clear hown hc1 hc2
  have w0' : IntKind.i64.wrap 0 = 0 := rfl
  have w1' : IntKind.i64.wrap 1 = 1 := rfl
  have w2' : IntKind.i64.wrap 2 = 2 := rfl
  have w3' : IntKind.i64.wrap 3 = 3 := rfl
  go_enter Tryz.func100, Tryz.ntmps100
  go_wp2
  refine wp_loop_rounds 4 ?_
  rw [rounds_succ]
  go_wp2
  refine wp_loop_rounds 3 ?_
  rw [rounds_succ]
  go_wp2_with fail
  go_region_held3 (fun w' => w'.cell? ⟨g, 0, none⟩ = some (.int .i64 4) ∧ w'.cell? ⟨g, 1, none⟩ = some (.string ⟨#[97]⟩) ∧ w'.cell? ⟨g, 2, none⟩ = some (.string ⟨#[98]⟩) ∧ w'.cell? ⟨g, 3, none⟩ = some (.int .i64 2) ∧ w'.cell? ⟨g, 4, none⟩ = some (.string ⟨#[99]⟩) ∧ w'.cell? ⟨g, 5, none⟩ = some (.string ⟨#[97]⟩)) (go_keep)
    ((go_at_call 51; refine Calls.mono (q1 _) ?_; rintro e W5 ⟨rfl, hb5⟩; have hw5 := (GrX.ofBelow (X := fun _ => False) hb5).own HH.out.drew fun _ _ e => e; have d0 := hw5.cellAt 0 (by omega); have d1 := hw5.cellAt 1 (by omega); have d2 := hw5.cellAt 2 (by omega); have d3 := hw5.cellAt 3 (by omega); have d4 := hw5.cellAt 4 (by omega); have d5 := hw5.cellAt 5 (by omega); simp only [List.getElem?_cons_zero, List.getElem?_cons_succ] at d0 d1 d2 d3 d4 d5; have HW5 : Hid (W5.ownsRow w0.heap.size 42 3 (.slice (some ⟨g, 0, none⟩) 3 cap) 3 [.int .i64 4, .string ⟨#[97]⟩, .string ⟨#[98]⟩, .int .i64 2, .string ⟨#[99]⟩, .string ⟨#[97]⟩, .int .i64 4, .string ⟨#[97]⟩, .string ⟨#[98]⟩] ∧ GrX (fun b => some b = some g) W W5) := ⟨hw5, (gr_drew W |>.mono (Y := fun b => some b = some g) fun _ e => e.elim).trans (GrX.ofBelow (X := fun _ => False) hb5) fun _ e => e.elim⟩; have f0 := hw5.frozenAt 0; have f1 := hw5.frozenAt 1; have f2 := hw5.frozenAt 2; have f3 := hw5.frozenAt 3; have f4 := hw5.frozenAt 4; have f5 := hw5.frozenAt 5; clear hb5 hw5))
  clear c0 c1 c2 c3 c4 c5
  go_wp2_with fail
  go_big_region_o
  all_goals go_wp2_with fail
  clear d0 d1 d2 d3 d4 d5 f0 f1 f2 f3 f4 f5
  obtain ⟨W6, hW6⟩ : ∃ W6, W6 = ((((((W5.setCell ⟨g, 3, none⟩ (.int .i64 4)).setCell ⟨g, 4, none⟩ (.string ⟨#[97]⟩)).setCell ⟨g, 5, none⟩ (.string ⟨#[98]⟩)).setCell ⟨g, 0, none⟩ (.int .i64 2)).setCell ⟨g, 1, none⟩ (.string ⟨#[99]⟩)).setCell ⟨g, 2, none⟩ (.string ⟨#[97]⟩)).drew := ⟨_, rfl⟩
  have H6 : Hid (W6.ownsRow w0.heap.size 42 3 (.slice (some ⟨g, 0, none⟩) 3 cap) 3 [.int .i64 2, .string ⟨#[99]⟩, .string ⟨#[97]⟩, .int .i64 4, .string ⟨#[97]⟩, .string ⟨#[98]⟩, .int .i64 4, .string ⟨#[97]⟩, .string ⟨#[98]⟩] ∧ GrX (fun b => some b = some g) W W6) := by
    have s1 := HW5.out.1.stored 3 (.int .i64 4)
    have s2 := s1.1.stored 4 (.string ⟨#[97]⟩)
    have s3 := s2.1.stored 5 (.string ⟨#[98]⟩)
    have s4 := s3.1.stored 0 (.int .i64 2)
    have s5 := s4.1.stored 1 (.string ⟨#[99]⟩)
    have s6 := s5.1.stored 2 (.string ⟨#[97]⟩)
    rw [hW6]
    refine ⟨s6.1.drew, ?_⟩
    have k1 := (GrX.ofGrown s1.2).trans (GrX.ofGrown s2.2) fun b e => .inl e
    have k2 := k1.trans (GrX.ofGrown s3.2) fun b e => .inl e
    have k3 := k2.trans (GrX.ofGrown s4.2) fun b e => .inl e
    have k4 := k3.trans (GrX.ofGrown s5.2) fun b e => .inl e
    have k5 := k4.trans (GrX.ofGrown s6.2) fun b e => .inl e
    exact (HW5.out.2.trans k5 fun b e => .inl e).trans (gr_drew _) fun _ e => e.elim
  rw [← hW6]
  clear hW6
  rw [rounds_succ]
  go_wp2_with fail
  go_big_region_o
  all_goals go_wp2_with fail
  rw [rounds_succ]
  go_wp2_with fail
  refine wp_loop_rounds 2 ?_
  rw [rounds_succ]
  go_wp2_with fail
  have e3 := H6.out.1.drew.cellAt 3 (by omega)
  have e4 := H6.out.1.drew.cellAt 4 (by omega)
  have e5 := H6.out.1.drew.cellAt 5 (by omega)
  have e6 := H6.out.1.drew.cellAt 6 (by omega)
  have e7 := H6.out.1.drew.cellAt 7 (by omega)
  have e8 := H6.out.1.drew.cellAt 8 (by omega)
  simp only [List.getElem?_cons_zero, List.getElem?_cons_succ] at e3 e4 e5 e6 e7 e8
  go_region_held3 (fun w' => w'.cell? ⟨g, 3, none⟩ = some (.int .i64 4) ∧ w'.cell? ⟨g, 4, none⟩ = some (.string ⟨#[97]⟩) ∧ w'.cell? ⟨g, 5, none⟩ = some (.string ⟨#[98]⟩) ∧ w'.cell? ⟨g, 6, none⟩ = some (.int .i64 4) ∧ w'.cell? ⟨g, 7, none⟩ = some (.string ⟨#[97]⟩) ∧ w'.cell? ⟨g, 8, none⟩ = some (.string ⟨#[98]⟩)) (go_keep)
    ((go_at_call 51; refine Calls.mono (q2 _) ?_; rintro e W7 ⟨rfl, hb7⟩; have hw7 := (GrX.ofBelow (X := fun _ => False) hb7).own H6.out.1.drew.drew fun _ _ e => e; have d3 := hw7.cellAt 3 (by omega); have d4 := hw7.cellAt 4 (by omega); have d5 := hw7.cellAt 5 (by omega); have d6 := hw7.cellAt 6 (by omega); have d7 := hw7.cellAt 7 (by omega); have d8 := hw7.cellAt 8 (by omega); simp only [List.getElem?_cons_zero, List.getElem?_cons_succ] at d3 d4 d5 d6 d7 d8; have H7 : Hid (W7.ownsRow w0.heap.size 42 3 (.slice (some ⟨g, 0, none⟩) 3 cap) 3 [.int .i64 2, .string ⟨#[99]⟩, .string ⟨#[97]⟩, .int .i64 4, .string ⟨#[97]⟩, .string ⟨#[98]⟩, .int .i64 4, .string ⟨#[97]⟩, .string ⟨#[98]⟩] ∧ GrX (fun b => some b = some g) W W7) := ⟨hw7, (H6.out.2.trans ((gr_drew W6).trans (gr_drew _) fun _ e => e.elim) fun _ e => e.elim).trans (GrX.ofBelow (X := fun _ => False) hb7) fun _ e => e.elim⟩; clear hb7 hw7))
  all_goals go_wp2_with fail
  rw [rounds_succ]
  go_wp2
  go_end0
  exact ⟨rfl, H7.out.1, ⟨H7.out.2.os, H7.out.2.tape, H7.out.2.output, H7.out.2.size, H7.out.2.block⟩⟩
end Go.Proofs

/-
  CERTIFICATES: sorting and leaving out equal neighbours, for the list that known() hands to relation.Normal. Own work.
-/
namespace Go.Pi
open Go Go.RowKit
variable {P : Program}
theorem clear_row3 {w : World} {t e base n cap g i : Nat} {xs : List Value} {z : Value} (ht : P.underlying t = some (.slice e)) (hv : ∀ w, (zeroValue e).run P w = .ok z w) (hz : z.cells.size = 3) (hz1 : ∀ u ∈ z.cells, u.oneCell' = true)
    (h : w.ownsRow base e 3 (.slice (some ⟨g, 0, none⟩) n cap) n xs) (hi : i < n) :
    ∃ w', (∀ ty c, (Builtin.clear_ #[t] ty #[.slice (some ⟨g, i * 3, none⟩) (n - i) c]).run P w = .ok (.tuple #[]) w') ∧ w'.ownsRow base e 3 (.slice (some ⟨g, 0, none⟩) i cap) i (xs.take (i * 3)) ∧ w.grownBy w' (some g) := by
  have hxl := h.1
  rcases h.2 with ⟨h1, _⟩ | ⟨g', cap', cur, h1, hbg, hg, hnc, hcm, hcs, htk⟩
  · simp at h1
  · simp only [Value.slice.injEq, Option.some.injEq, Addr.mk.injEq, and_true, true_and] at h1
    obtain ⟨rfl, rfl⟩ := h1
    have hzs : (Builtin.zeroCells z.cells (n - i)).size = (n - i) * 3 := by rw [size_zeroCells, hz]
    have hfit : i * 3 + 0 + (Builtin.zeroCells z.cells (n - i)).toList.length ≤ cur.size := by rw [Array.length_toList, hzs, hcs]; omega
    have hone : ∀ u ∈ (Builtin.zeroCells z.cells (n - i)).toList, u.oneCell' = true := fun u hu => by
      obtain ⟨q, hq⟩ := List.getElem?_of_mem hu
      simp [Builtin.zeroCells, Array.getElem?_ofFn] at hq
      obtain ⟨hq1, _, rfl⟩ := hq
      have hlt : hq1 % z.cells.size < z.cells.size := Nat.mod_lt _ (by omega)
      rw [getElem!_pos z.cells _ hlt]
      exact hz1 _ (Array.getElem_mem hlt)
    have hex := run_storeCells_at P g (i * 3) e (Builtin.zeroCells z.cells (n - i)).toList 0 cur w hg hfit hone
    simp only [Nat.add_zero] at hex
    generalize hnew : (cur.toList.take (i * 3) ++ (Builtin.zeroCells z.cells (n - i)).toList ++ cur.toList.drop (i * 3 + (Builtin.zeroCells z.cells (n - i)).toList.length)).toArray = arr at hex
    have hnl : arr.toList = cur.toList.take (i * 3) ++ ((Builtin.zeroCells z.cells (n - i)).toList ++ cur.toList.drop (i * 3 + (Builtin.zeroCells z.cells (n - i)).toList.length)) := by rw [← hnew]; simp
    have e1 : (cur.toList.take (i * 3)).length = i * 3 := by rw [List.length_take, Array.length_toList]; omega
    refine ⟨w.setRow g arr, fun ty c => ?_, ⟨?_, .inr ⟨g, cap, arr, rfl, hbg, setRow_heap w g cur arr e (0, 0) hg, by omega, hcm, ?_, ?_⟩⟩, ⟨rfl, rfl, rfl, by simp, fun k _ hk => setRow_other w g k arr (fun e => hk (by simp [e]))⟩⟩
    · obtain ⟨q, hq⟩ : ∃ q, n - i = q + 1 := ⟨n - i - 1, by omega⟩
      rw [hq] at hex ⊢
      simp [Builtin.clear_, run_underlying ht, hv, hex]
    · rw [List.length_take]; omega
    · have := congrArg List.length hnl
      rw [List.length_append, List.length_append, e1, List.length_drop, Array.length_toList, Array.length_toList, Array.length_toList] at this
      simp only [Array.length_toList] at hfit
      omega
    · rw [hnl, List.take_left' e1, ← htk, List.take_take, Nat.min_eq_left (by omega)]
end Go.Pi
namespace Go.Proofs
open Go Go.Pi Go.RowKit Go.Shelf Go.Tp Go.Lib
set_option maxRecDepth 100000 in
set_option maxHeartbeats 4000000 in
theorem Tryz.oPdq (w0 W : World) (g cap : Nat) (k : Int) (hown : W.ownsRow w0.heap.size 42 3 (.slice (some ⟨g, 0, none⟩) 3 cap) 3 [.int .i64 4, .string ⟨#[97]⟩, .string ⟨#[98]⟩, .int .i64 2, .string ⟨#[99]⟩, .string ⟨#[97]⟩, .int .i64 4, .string ⟨#[97]⟩, .string ⟨#[98]⟩])
    (hc1 : Con Tryz.prog Tryz.L 51 [.agg [.int .i64 2, .str [99], .str [97]], .agg [.int .i64 4, .str [97], .str [98]]] (.int .i64 (-1)))
    (hc2 : Con Tryz.prog Tryz.L 51 [.agg [.int .i64 4, .str [97], .str [98]], .agg [.int .i64 4, .str [97], .str [98]]] (.int .i64 0)) :
    Calls Tryz.prog 67 #[.slice (some ⟨g, 0, none⟩) 3 cap, .int .i64 0, .int .i64 3, .int .i64 k, .func (.func 51) #[] #[]] W fun e W' => e = .returned (.tuple #[]) ∧ W'.ownsRow w0.heap.size 42 3 (.slice (some ⟨g, 0, none⟩) 3 cap) 3 [.int .i64 2, .string ⟨#[99]⟩, .string ⟨#[97]⟩, .int .i64 4, .string ⟨#[97]⟩, .string ⟨#[98]⟩, .int .i64 4, .string ⟨#[97]⟩, .string ⟨#[98]⟩] ∧ W.grownBy W' (some g) := by
  have mixed : Tryz.prog.follows .mixedOrders = true := by kernel_rfl
  have t0 := Tryz.underlying24
  have t3 := Tryz.underlying4; have t4 := Tryz.underlying3
  have hi := Tryz.oIns w0 W g cap hown hc1 hc2
  have hwr : IntKind.i64.wrap 3 = 3 := rfl
  clear hown hc1 hc2
  go_enter Tryz.func67, Tryz.ntmps67
  go_wp2
  refine wp_loop_rounds 1 ?_
  rw [rounds_succ]
  go_wp2_with (go_at_call 100; refine Calls.mono hi ?_; rintro e W1 ⟨rfl, h1⟩)
  (try simp only [Exit.inBlock, Exit.then]); refine bodyPost_ret (results_none rfl _ _ _) rfl ?_
  exact ⟨rfl, h1⟩
set_option maxRecDepth 100000 in
set_option maxHeartbeats 4000000 in
theorem Tryz.oSort (w0 W : World) (g cap : Nat) (hown : W.ownsRow w0.heap.size 42 3 (.slice (some ⟨g, 0, none⟩) 3 cap) 3 [.int .i64 4, .string ⟨#[97]⟩, .string ⟨#[98]⟩, .int .i64 2, .string ⟨#[99]⟩, .string ⟨#[97]⟩, .int .i64 4, .string ⟨#[97]⟩, .string ⟨#[98]⟩])
    (hc1 : Con Tryz.prog Tryz.L 51 [.agg [.int .i64 2, .str [99], .str [97]], .agg [.int .i64 4, .str [97], .str [98]]] (.int .i64 (-1)))
    (hc2 : Con Tryz.prog Tryz.L 51 [.agg [.int .i64 4, .str [97], .str [98]], .agg [.int .i64 4, .str [97], .str [98]]] (.int .i64 0)) :
    Calls Tryz.prog 50 #[.slice (some ⟨g, 0, none⟩) 3 cap, .func (.func 51) #[] #[]] W fun e W' => e = .returned (.tuple #[]) ∧ W'.ownsRow w0.heap.size 42 3 (.slice (some ⟨g, 0, none⟩) 3 cap) 3 [.int .i64 2, .string ⟨#[99]⟩, .string ⟨#[97]⟩, .int .i64 4, .string ⟨#[97]⟩, .string ⟨#[98]⟩, .int .i64 4, .string ⟨#[97]⟩, .string ⟨#[98]⟩] ∧ W.grownBy W' (some g) := by
  have mixed : Tryz.prog.follows .mixedOrders = true := by kernel_rfl
  have t0 := Tryz.underlying24
  have t3 := Tryz.underlying117; have t4 := Tryz.underlying3
  have hp := fun k => Tryz.oPdq w0 W g cap k hown hc1 hc2
  have hn := Tryz.bits_Len 3 W (by omega) (by omega)
  have hwr : IntKind.u64.wrap 3 = 3 := rfl
  clear hown hc1 hc2
  go_enter Tryz.func50, Tryz.ntmps50
  go_wp2_with (first | (go_at_call 61; refine Calls.mono hn ?_; rintro e W1 ⟨rfl, rfl⟩) | (go_at_call 67; refine Calls.mono (hp _) ?_; rintro e W2 ⟨rfl, h1⟩))
  go_end0
  exact ⟨rfl, h1⟩
set_option maxRecDepth 100000 in
theorem Tryz.oEq1 (w : World) : (binOp .eql 42 (.agg #[.int .i64 4, .string ⟨#[97]⟩, .string ⟨#[98]⟩]) (.agg #[.int .i64 2, .string ⟨#[99]⟩, .string ⟨#[97]⟩])).run Tryz.prog w = .ok (.bool false) w := by kernel_rfl
set_option maxRecDepth 100000 in
theorem Tryz.oEq2 (w : World) : (binOp .eql 42 (.agg #[.int .i64 4, .string ⟨#[97]⟩, .string ⟨#[98]⟩]) (.agg #[.int .i64 4, .string ⟨#[97]⟩, .string ⟨#[98]⟩])).run Tryz.prog w = .ok (.bool true) w := by kernel_rfl
theorem Tryz.oEqG (op : BinOp) (a b : Operand) (x y : Array Value) (w : World) : (eqGuard op 42 a b (.agg x) (.agg y)).run Tryz.prog w = .ok () w := run_eqGuard_agg w op 42 a b x y (by kernel_rfl)
set_option maxRecDepth 100000 in
set_option maxHeartbeats 4000000 in
theorem Tryz.oCompR (w0 W : World) (g cap : Nat) (hown : W.ownsRow w0.heap.size 42 3 (.slice (some ⟨g, 0, none⟩) 3 cap) 3 [.int .i64 2, .string ⟨#[99]⟩, .string ⟨#[97]⟩, .int .i64 4, .string ⟨#[97]⟩, .string ⟨#[98]⟩, .int .i64 4, .string ⟨#[97]⟩, .string ⟨#[98]⟩]) :
    Calls Tryz.prog 52 #[.slice (some ⟨g, 0, none⟩) 3 cap] W fun e W' => e = .returned (.slice (some ⟨g, 0, none⟩) 2 cap) ∧ W'.ownsRow w0.heap.size 42 3 (.slice (some ⟨g, 0, none⟩) 2 cap) 2 [.int .i64 2, .string ⟨#[99]⟩, .string ⟨#[97]⟩, .int .i64 4, .string ⟨#[97]⟩, .string ⟨#[98]⟩] ∧ W.grownBy W' (some g) := by
  have mixed : Tryz.prog.follows .mixedOrders = true := by kernel_rfl
  have t0 := Tryz.underlying24; have a0 := Tryz.isAgg24; have z0 := Tryz.sizeOf24; have v0 := Tryz.zeroValue24; have u0 := run_underlying Tryz.underlying24
  have t1 := Tryz.underlying42; have a1 := Tryz.isAgg42; have z1 := Tryz.sizeOf42; have v1 := Tryz.zeroValue42; have u1 := run_underlying Tryz.underlying42
  have t3 := Tryz.underlying4
  have t4 := Tryz.underlying3
  have q1 := Tryz.oEq1; have q2 := Tryz.oEq2; have q3 := Tryz.oEqG
  have w0' : IntKind.i64.wrap 0 = 0 := rfl
  have w1' : IntKind.i64.wrap 1 = 1 := rfl
  have w2' : IntKind.i64.wrap 2 = 2 := rfl
  have c0 := hown.cellAt 0 (by omega)
  have c1 := hown.cellAt 1 (by omega)
  have c2 := hown.cellAt 2 (by omega)
  have c3 := hown.cellAt 3 (by omega)
  have c4 := hown.cellAt 4 (by omega)
  have c5 := hown.cellAt 5 (by omega)
  have c6 := hown.cellAt 6 (by omega)
  have c7 := hown.cellAt 7 (by omega)
  have c8 := hown.cellAt 8 (by omega)
  simp only [List.getElem?_cons_zero, List.getElem?_cons_succ] at c0 c1 c2 c3 c4 c5 c6 c7 c8
  have hcap : 3 ≤ cap := by
    rcases hown.2 with ⟨h1, _⟩ | ⟨g', cap', cur, h1, _, _, h2, _⟩
    · cases h1
    · cases h1; exact h2
  have hcapz : (3 : Int) ≤ (cap : Int) := by omega
  obtain ⟨w2, hcl2, hw2, hg2'⟩ := clear_row3 (P := Tryz.prog) t0 v1 rfl (by simp [Value.cells, Value.oneCell']) hown.drew.drew (i := 2) (by omega)
  have hcl3 : ∀ ty c, (Builtin.clear_ #[24] ty #[.slice (some ⟨g, 6, none⟩) 1 c]).run Tryz.prog W.drew.drew = .ok (.tuple #[]) w2 := hcl2
  clear hown hcl2
  go_enter Tryz.func52, Tryz.ntmps52
  go_wp2
  refine wp_loop_rounds 3 ?_
  rw [rounds_succ]
  go_wp2_with fail
  go_big_region_o
  all_goals go_wp2_with fail
  rw [rounds_succ]
  go_wp2_with fail
  go_big_region_o
  all_goals go_wp2_with fail
  refine wp_loop_rounds 1 ?_
  rw [rounds_succ]
  go_wp2
  go_ret
  exact ⟨rfl, hw2, ⟨hg2'.os, hg2'.tape, hg2'.output, hg2'.size, hg2'.block⟩⟩
end Go.Proofs

/-
  CERTIFICATES: relation.Normal at the list that known() hands to it. Own work.
-/
namespace Go.Tp
open Go Go.Pi Go.RowKit
def relN : List D := [.int .i64 4, .str [98], .str [97], .int .i64 2, .str [99], .str [97], .int .i64 4, .str [97], .str [98]]
theorem relN_cells {S : Nat → Nat → Prop} {W : World} {v : Value} (h : Rep S W (.sl 3 relN) v) : ∃ b off cap, v = .slice (some ⟨b, off, none⟩) 3 cap ∧ S b off ∧ ∀ j u, ([.int .i64 4, .string ⟨#[98]⟩, .string ⟨#[97]⟩, .int .i64 2, .string ⟨#[99]⟩, .string ⟨#[97]⟩, .int .i64 4, .string ⟨#[97]⟩, .string ⟨#[98]⟩] : List Value)[j]? = some u → W.cell? ⟨b, off + j, none⟩ = some u := by
  generalize hq : D.sl 3 relN = q at h
  cases h with
  | sl0 a cap hc => cases hq
  | slN => cases hq
  | sl n ds b off cap vs hl h1 hn hc hr h =>
    cases hq
    have h8 : Reps S W relN vs := ⟨hl, h⟩
    unfold relN at h8
    obtain ⟨x0, r0, rfl, k0, h8⟩ := Reps.uncons h8
    obtain ⟨x1, r1, rfl, k1, h8⟩ := Reps.uncons h8
    obtain ⟨x2, r2, rfl, k2, h8⟩ := Reps.uncons h8
    obtain ⟨x3, r3, rfl, k3, h8⟩ := Reps.uncons h8
    obtain ⟨x4, r4, rfl, k4, h8⟩ := Reps.uncons h8
    obtain ⟨x5, r5, rfl, k5, h8⟩ := Reps.uncons h8
    obtain ⟨x6, r6, rfl, k6, h8⟩ := Reps.uncons h8
    obtain ⟨x7, r7, rfl, k7, h8⟩ := Reps.uncons h8
    obtain ⟨x8, r8, rfl, k8, h8⟩ := Reps.uncons h8
    obtain rfl : r8 = [] := List.length_eq_zero_iff.1 h8.1.symm
    cases k0; cases k3; cases k6
    rw [k1.str_inv.1, k2.str_inv.1, k4.str_inv.1, k5.str_inv.1, k7.str_inv.1, k8.str_inv.1] at hr
    exact ⟨b, off, cap, rfl, (hr 0 _ rfl).1, fun j u hj => (hr j u hj).2⟩
  | _ => cases hq
theorem rep_relM {W : World} {S : Nat → Nat → Prop} {base e : Nat} {v : Value} (h : W.ownsRow base e 3 v 2 [.int .i64 2, .string ⟨#[99]⟩, .string ⟨#[97]⟩, .int .i64 4, .string ⟨#[97]⟩, .string ⟨#[98]⟩]) (hS : ∀ b j, base ≤ b → b < W.heap.size → S b j) : Rep S W (.sl 2 [.int .i64 2, .str [99], .str [97], .int .i64 4, .str [97], .str [98]]) v := by
  refine rep_ownG h rfl (by simp [D.one]) (fun i d u hd hu => ?_) hS
  match i with
  | 0 => cases hd; cases hu; exact .int _ _
  | 1 => cases hd; cases hu; exact .str [99] (by decide)
  | 2 => cases hd; cases hu; exact .str [97] (by decide)
  | 3 => cases hd; cases hu; exact .int _ _
  | 4 => cases hd; cases hu; exact .str [97] (by decide)
  | 5 => cases hd; cases hu; exact .str [98] (by decide)
  | i + 6 => simp at hd
end Go.Tp
namespace Go.Proofs
open Go Go.Pi Go.RowKit Go.Shelf Go.Tp Go.Lib
set_option maxRecDepth 100000 in
set_option maxHeartbeats 8000000 in
theorem Tryz.oClone {S : Nat → Nat → Prop} {W w : World} {ad : Option Addr} {cap : Nat} (hS : ∀ b j, S b j → b < W.heap.size) (hR : Rep S W (.sl 3 relN) (.slice ad 3 cap)) (hb : Below W.heap.size W w) : Calls Tryz.prog 49 #[.slice ad 3 cap] w fun e w' => ∃ g c, e = .returned (.slice (some ⟨g, 0, none⟩) 3 c) ∧ Below w.heap.size w w' ∧ w'.ownsRow w.heap.size 42 3 (.slice (some ⟨g, 0, none⟩) 3 c) 3 [.int .i64 4, .string ⟨#[98]⟩, .string ⟨#[97]⟩, .int .i64 2, .string ⟨#[99]⟩, .string ⟨#[97]⟩, .int .i64 4, .string ⟨#[97]⟩, .string ⟨#[98]⟩] := by
  have mixed : Tryz.prog.follows .mixedOrders = true := by kernel_rfl
  have t0 := Tryz.underlying24; have t1 := Tryz.underlying42; have t3 := Tryz.underlying4
  have qT : ∀ (w : World) (a : Option Addr) (n c n' c' : Nat), (binOp .eql 24 (.slice a n c) (.slice none n' c')).run Tryz.prog w = .ok (.bool a.isNone) w := fun w a n c n' c' => Lib.run_eql_slice_nil w _ _ a n c n' c' Tryz.underlying24
  have hip : (Tryz.prog.info? 42).map (fun i => (i.zero, i.size, i.bytes)) = some (some (.agg #[.int .i64 0, .string ⟨#[]⟩, .string ⟨#[]⟩]), 3, 40) := by kernel_rfl
  obtain ⟨ip, hip1, hip2, hip3, hip4⟩ := info_parts hip
  obtain ⟨b, off, cap', hv, hsb, hcs⟩ := relN_cells hR
  cases hv
  have lb := Nat.lt_of_lt_of_le (hS _ _ hsb) hb.size
  have hc' : ∀ j u, ([.int .i64 4, .string ⟨#[98]⟩, .string ⟨#[97]⟩, .int .i64 2, .string ⟨#[99]⟩, .string ⟨#[97]⟩, .int .i64 4, .string ⟨#[97]⟩, .string ⟨#[98]⟩] : List Value)[j]? = some u → (w.alloc (.cells #[] 42)).cell? ((⟨b, off, none⟩ : Addr).add j) = some u := fun j u hj => by
    have h1 := (hb.cell (p := ⟨b, off + j, none⟩) (hS _ _ hsb)).trans (hcs j u hj)
    have k : GrX (fun _ => False) w (w.alloc (.cells #[] 42)) := .alloc _ _
    have ea : (⟨b, off, none⟩ : Addr).add j = ⟨b, off + j, none⟩ := by
      unfold Addr.add
      split
      · rename_i e; have : j = 0 := by simpa using e
        subst this; rfl
      · rfl
    rw [ea]
    exact (k.cell (a := ⟨b, off + j, none⟩) lb id).trans h1
  have HC : Hid (∀ j u, ([.int .i64 4, .string ⟨#[98]⟩, .string ⟨#[97]⟩, .int .i64 2, .string ⟨#[99]⟩, .string ⟨#[97]⟩, .int .i64 4, .string ⟨#[97]⟩, .string ⟨#[98]⟩] : List Value)[j]? = some u → (w.alloc (.cells #[] 42)).cell? ((⟨b, off, none⟩ : Addr).add j) = some u) := hc'
  have hown : Hid ((w.alloc (.cells #[] 42)).ownsRow w.heap.size 42 3 (.slice (some ⟨w.heap.size, 0, none⟩) 0 0) 0 []) := ⟨rfl, .inr ⟨w.heap.size, 0, #[], rfl, Nat.le_refl _, heap_alloc_new w _, Nat.le_refl _, by decide, rfl, rfl⟩⟩
  have hcap : 3 ≤ cap ∧ cap ≤ maxLen := by
    generalize hq : D.sl 3 relN = q at hR
    cases hR with
    | sl n ds b off cap vs hl h1 hn hc hr h => cases hq; exact ⟨hn, hc⟩
    | _ => cases hq
  clear hcs hc' hR hS
  go_enter Tryz.func49, Tryz.ntmps49
  go_wp2_with (at_builtin; refine wpList_append_lies _ rfl _ _ 24 rfl w.heap.size 42 ip (.agg #[.int .i64 0, .string ⟨#[]⟩, .string ⟨#[]⟩]) 3 40 Tryz.underlying24 hip1 hip2 hip3 hip4 rfl (by decide) (.slice (some ⟨w.heap.size, 0, none⟩) 0 0) 0 [] rfl hown.out ⟨b, off, none⟩ 3 cap [.int .i64 4, .string ⟨#[98]⟩, .string ⟨#[97]⟩, .int .i64 2, .string ⟨#[99]⟩, .string ⟨#[97]⟩, .int .i64 4, .string ⟨#[97]⟩, .string ⟨#[98]⟩] rfl rfl HC.out (by simp [Value.oneCell']) (by first | decide | omega) (by first | (unfold maxLen; omega) | omega) (by first | omega | (simp; omega) | simp) (by first | omega | (simp; omega) | simp) _ rfl ?_; intro g4 c4 w4 ho4 hg4 hl4 hlt4; have H4 : Hid (w4.ownsRow w.heap.size 42 3 (.slice (some ⟨g4, 0, none⟩) 3 c4) 3 [.int .i64 4, .string ⟨#[98]⟩, .string ⟨#[97]⟩, .int .i64 2, .string ⟨#[99]⟩, .string ⟨#[97]⟩, .int .i64 4, .string ⟨#[97]⟩, .string ⟨#[98]⟩] ∧ Below w.heap.size w w4) := ⟨ho4, (GrX.ofGrown hg4).below ((Below.refl w.heap.size w).alloc (Nat.le_refl _) _) (fun k e => by simp [Value.ownBlock] at e; omega) (by simp)⟩; clear ho4 hg4 hl4)
  go_ret
  exact ⟨g4, c4, rfl, H4.out.2, H4.out.1⟩
set_option maxRecDepth 100000 in
set_option maxHeartbeats 8000000 in
theorem Tryz.oNormal (hca : Con Tryz.prog Tryz.L 43 [.sl 3 relN] (.int .i64 0))
    (hc1 : Con Tryz.prog Tryz.L 51 [.agg [.int .i64 2, .str [99], .str [97]], .agg [.int .i64 4, .str [97], .str [98]]] (.int .i64 (-1)))
    (hc2 : Con Tryz.prog Tryz.L 51 [.agg [.int .i64 4, .str [97], .str [98]], .agg [.int .i64 4, .str [97], .str [98]]] (.int .i64 0)) :
    Con Tryz.prog Tryz.L 26 [.sl 3 relN] (.tup [.sl 2 [.int .i64 2, .str [99], .str [97], .int .i64 4, .str [97], .str [98]], .int .i64 0]) := by
  have mixed : Tryz.prog.follows .mixedOrders = true := by kernel_rfl
  have t0 := Tryz.underlying24; have a0 := Tryz.isAgg24; have z0 := Tryz.sizeOf24; have v0 := Tryz.zeroValue24; have u0 := run_underlying Tryz.underlying24
  have t1 := Tryz.underlying42; have a1 := Tryz.isAgg42; have z1 := Tryz.sizeOf42; have v1 := Tryz.zeroValue42; have u1 := run_underlying Tryz.underlying42
  have t3 := Tryz.underlying4; have a3 := Tryz.isAgg4; have z3 := Tryz.sizeOf4; have v3 := Tryz.zeroValue4
  have t4 := Tryz.underlying3; have a4 := Tryz.isAgg3; have z4 := Tryz.sizeOf3; have v4 := Tryz.zeroValue3
  have t5 := Tryz.underlying9; have a5 := Tryz.isAgg9; have z5 := Tryz.sizeOf9; have v5 := Tryz.zeroValue9
  have t6 := Tryz.underlying27
  refine ⟨⟨by kernel_rfl, rfl⟩, fun S W vs hS hL hrep => ?_⟩
  have hca' := hca.2 S W vs hS hL hrep
  obtain ⟨va, r1, rfl, hra, t1'⟩ := hrep.uncons
  obtain rfl : r1 = [] := List.length_eq_zero_iff.1 t1'.1.symm
  obtain ⟨ad, cap, rfl, _⟩ := sl_get hra (by simp [relN])
  have HR : Hid (Rep S W (.sl 3 relN) (.slice ad 3 cap)) := hra
  have HS : Hid (∀ b j, S b j → b < W.heap.size) := hS
  have hcl' := fun w hb => Tryz.oClone (w := w) hS hra hb
  clear hra hrep t1' hS hca
  have H12 : Hid (Con Tryz.prog Tryz.L 51 [.agg [.int .i64 2, .str [99], .str [97]], .agg [.int .i64 4, .str [97], .str [98]]] (.int .i64 (-1)) ∧ Con Tryz.prog Tryz.L 51 [.agg [.int .i64 4, .str [97], .str [98]], .agg [.int .i64 4, .str [97], .str [98]]] (.int .i64 0)) := ⟨hc1, hc2⟩
  clear hc1 hc2
  show Calls _ _ #[.slice ad 3 cap] _ _
  go_enter Tryz.func26, Tryz.ntmps26
  go_wp2_with (first
    | (go_at_call 43; refine Calls.mono hca' ?_; rintro e W1 ⟨w1, rfl, hb1, hr1⟩; obtain rfl : w1 = .int .i64 0 := (by cases hr1; rfl); have HB1 : Hid (Below W.heap.size W W1) := hb1; clear hb1 hr1 hca')
    | (go_at_call 49; refine Calls.mono (hcl' W1 HB1.out) ?_; rintro e W2 ⟨g, c, rfl, hb2, ho2⟩; have HO2 : Hid (W2.ownsRow W.heap.size 42 3 (.slice (some ⟨g, 0, none⟩) 3 c) 3 [.int .i64 4, .string ⟨#[98]⟩, .string ⟨#[97]⟩, .int .i64 2, .string ⟨#[99]⟩, .string ⟨#[97]⟩, .int .i64 4, .string ⟨#[97]⟩, .string ⟨#[98]⟩] ∧ Below W.heap.size W W2) := ⟨own_base ho2 HB1.out.size, HB1.out.trans (hb2.mono HB1.out.size)⟩; clear hb2 ho2 hcl'))
  have l1 := (HO2.out.1.lt g rfl).2
  have c0 := HO2.out.1.cellAt 0 (by omega)
  have c1 := HO2.out.1.cellAt 1 (by omega)
  have c2 := HO2.out.1.cellAt 2 (by omega)
  have c3 := HO2.out.1.cellAt 3 (by omega)
  have c4 := HO2.out.1.cellAt 4 (by omega)
  have c5 := HO2.out.1.cellAt 5 (by omega)
  have c6 := HO2.out.1.cellAt 6 (by omega)
  have c7 := HO2.out.1.cellAt 7 (by omega)
  have c8 := HO2.out.1.cellAt 8 (by omega)
  have f1 := HO2.out.1.frozenAt 1
  have f2 := HO2.out.1.frozenAt 2
  simp only [List.getElem?_cons_zero, List.getElem?_cons_succ] at c0 c1 c2 c3 c4 c5 c6 c7 c8
  have bl1 : Op.bytesLess [98] [97] = false := by decide
  have bl2 : Op.bytesLess [97] [98] = true := by decide
  refine wp_loop_rounds 4 ?_
  rw [rounds_succ]
  go_wp2_with fail
  go_big_region_o
  all_goals go_wp2_with fail
  rw [rounds_succ]
  go_wp2_with fail
  rw [rounds_succ]
  go_wp2_with fail
  rw [rounds_succ]
  go_wp2_with fail
  have ho4 : Hid (∀ w4, w4 = (((((W2.setCell ⟨g, 1, none⟩ (.string ⟨#[97]⟩)).setCell ⟨g, 2, none⟩ (.string ⟨#[98]⟩)).alloc (.cells #[.int .i64 4, .string ⟨#[98]⟩, .string ⟨#[97]⟩] 42)).alloc (.cells #[.int .i64 2, .string ⟨#[99]⟩, .string ⟨#[97]⟩] 42)).alloc (.cells #[.int .i64 4, .string ⟨#[97]⟩, .string ⟨#[98]⟩] 42)).drew → w4.ownsRow W.heap.size 42 3 (.slice (some ⟨g, 0, none⟩) 3 c) 3 [.int .i64 4, .string ⟨#[97]⟩, .string ⟨#[98]⟩, .int .i64 2, .string ⟨#[99]⟩, .string ⟨#[97]⟩, .int .i64 4, .string ⟨#[97]⟩, .string ⟨#[98]⟩] ∧ Below W.heap.size W w4) := by
    rintro w4 rfl
    have s1 := HO2.out.1.stored 1 (.string ⟨#[97]⟩)
    have s2 := s1.1.stored 2 (.string ⟨#[98]⟩)
    refine ⟨(((s2.1.alloc _).alloc _).alloc _).drew, ?_⟩
    have hg : W.heap.size ≤ g := (HO2.out.1.lt g rfl).1
    have k1 := (GrX.ofGrown s1.2).trans (GrX.ofGrown s2.2) fun b e => .inl e
    have b1 := k1.below HO2.out.2 (fun b e => by
      have : b = g := by simpa [Value.ownBlock] using e
      omega) HO2.out.2.size
    exact (((b1.alloc b1.size _).alloc (by simp; exact Nat.le_trans b1.size (by simp)) _).alloc (by have := b1.size; simp at this ⊢; omega) _).drew
  refine Calls.mono (Tryz.oSort W _ g c (ho4.out _ rfl).1 H12.out.1 H12.out.2) ?_
  rintro e W6 ⟨rfl, ho6, hg6⟩
  have hb6 : Below W.heap.size W W6 := (GrX.ofGrown hg6).below (ho4.out _ rfl).2 (fun b e => by injection e with e; subst e; exact (HO2.out.1.lt _ rfl).1) (ho4.out _ rfl).2.size
  have H6 : Hid (W6.ownsRow W.heap.size 42 3 (.slice (some ⟨g, 0, none⟩) 3 c) 3 [.int .i64 2, .string ⟨#[99]⟩, .string ⟨#[97]⟩, .int .i64 4, .string ⟨#[97]⟩, .string ⟨#[98]⟩, .int .i64 4, .string ⟨#[97]⟩, .string ⟨#[98]⟩] ∧ Below W.heap.size W W6) := ⟨ho6, hb6⟩
  clear ho6 hg6 hb6 ho4
  go_wp2_with (go_at_call 52; refine Calls.mono (Tryz.oCompR W W6 g c H6.out.1) ?_; rintro e W7 ⟨rfl, ho7, hg7⟩; have H7 : Hid (W7.ownsRow W.heap.size 42 3 (.slice (some ⟨g, 0, none⟩) 2 c) 2 [.int .i64 2, .string ⟨#[99]⟩, .string ⟨#[97]⟩, .int .i64 4, .string ⟨#[97]⟩, .string ⟨#[98]⟩] ∧ Below W.heap.size W W7) := ⟨ho7, (GrX.ofGrown hg7).below H6.out.2 (fun b e => by injection e with e; subst e; exact (HO2.out.1.lt _ rfl).1) H6.out.2.size⟩; clear ho7 hg7)
  go_ret2
  exact ⟨_, rfl, H7.out.2, rep_tup2 (rep_relM H7.out.1 fun b j h1 h2 => .inr ⟨h1, h2⟩) (.int _ _)⟩
end Go.Proofs

/-
  CERTIFICATES: known() of chapter 20 and accepts44, by evaluating the readings. Own work.
-/
namespace Go.Proofs
open Go Go.Pi Go.RowKit Go.Tp
/-- the readings that are evaluated -/
def Tryz.cT : Tbl := [(5, pc5, rs5, 0),
  (12, pc12, rs12, 0),
  (13, pc13, rs13, 1),
  (24, pc24, rs24, 1),
  (25, pc25, rs25, 1),
  (27, pc27, rs27, 1),
  (28, pc28, rs28, 1),
  (39, pc39, rs39, 2),
  (40, pc40, rs40, 2),
  (41, pc41, rs41, 0),
  (42, pc42, rs42, 2),
  (43, pc43, rs43, 1),
  (44, pc44, rs44, 2),
  (46, pc46, rs46, 1),
  (47, pc47, rs47, 2),
  (51, pc51, rs51, 2),
  (53, pc53, rs53, 2),
  (54, pc54, rs54, 2),
  (55, pc55, rs55, 1),
  (56, pc56, rs56, 2),
  (57, pc57, rs57, 2),
  (58, pc58, rs58, 1),
  (61, pc61, rs61, 1),
  (64, pc64, rs64, 4),
  (65, pc65, rs65, 5),
  (66, pc66, rs66, 1),
  (68, pc68, rs68, 2),
  (69, pc69, rs69, 2),
  (70, pc70, rs70, 2),
  (72, pc72, rs72, 2),
  (73, pc73, rs73, 1),
  (74, pc74, rs74, 1),
  (76, pc76, rs76, 2),
  (91, pc91, rs91, 2),
  (92, pc92, rs92, 4),
  (108, pc108, rs108, 1),
  (109, pc109, rs109, 2)]
theorem Tryz.cT_ok : Tryz.cT.Ok Tryz.prog Tryz.L := by
  intro q hq ds r h1 h2 h3 h4
  simp only [Tryz.cT, List.mem_cons, List.not_mem_nil, or_false] at hq
  rcases hq with rfl | rfl | rfl | rfl | rfl | rfl | rfl | rfl | rfl | rfl | rfl | rfl | rfl | rfl | rfl | rfl | rfl | rfl | rfl | rfl | rfl | rfl | rfl | rfl | rfl | rfl | rfl | rfl | rfl | rfl | rfl | rfl | rfl | rfl | rfl | rfl | rfl
  · exact con_chk Tryz.hL Tryz.func5 chk5 h1 h2 h3 h4
  · exact con_chk Tryz.hL Tryz.func12 chk12 h1 h2 h3 h4
  · exact con_chk Tryz.hL Tryz.func13 chk13 h1 h2 h3 h4
  · exact con_chk Tryz.hL Tryz.func24 chk24 h1 h2 h3 h4
  · exact con_chk Tryz.hL Tryz.func25 chk25 h1 h2 h3 h4
  · exact con_chk Tryz.hL Tryz.func27 chk27 h1 h2 h3 h4
  · exact con_chk Tryz.hL Tryz.func28 chk28 h1 h2 h3 h4
  · exact con_chk Tryz.hL Tryz.func39 chk39 h1 h2 h3 h4
  · exact con_chk Tryz.hL Tryz.func40 chk40 h1 h2 h3 h4
  · exact con_chk Tryz.hL Tryz.func41 chk41 h1 h2 h3 h4
  · exact con_chk Tryz.hL Tryz.func42 chk42 h1 h2 h3 h4
  · exact con_chk Tryz.hL Tryz.func43 chk43 h1 h2 h3 h4
  · exact con_chk Tryz.hL Tryz.func44 chk44 h1 h2 h3 h4
  · exact con_chk Tryz.hL Tryz.func46 chk46 h1 h2 h3 h4
  · exact con_chk Tryz.hL Tryz.func47 chk47 h1 h2 h3 h4
  · exact con_chk Tryz.hL Tryz.func51 chk51 h1 h2 h3 h4
  · exact con_chk Tryz.hL Tryz.func53 chk53 h1 h2 h3 h4
  · exact con_chk Tryz.hL Tryz.func54 chk54 h1 h2 h3 h4
  · exact con_chk Tryz.hL Tryz.func55 chk55 h1 h2 h3 h4
  · exact con_chk Tryz.hL Tryz.func56 chk56 h1 h2 h3 h4
  · exact con_chk Tryz.hL Tryz.func57 chk57 h1 h2 h3 h4
  · exact con_chk Tryz.hL Tryz.func58 chk58 h1 h2 h3 h4
  · exact con_chk Tryz.hL Tryz.func61 chk61 h1 h2 h3 h4
  · exact con_chk Tryz.hL Tryz.func64 chk64 h1 h2 h3 h4
  · exact con_chk Tryz.hL Tryz.func65 chk65 h1 h2 h3 h4
  · exact con_chk Tryz.hL Tryz.func66 chk66 h1 h2 h3 h4
  · exact con_chk Tryz.hL Tryz.func68 chk68 h1 h2 h3 h4
  · exact con_chk Tryz.hL Tryz.func69 chk69 h1 h2 h3 h4
  · exact con_chk Tryz.hL Tryz.func70 chk70 h1 h2 h3 h4
  · exact con_chk Tryz.hL Tryz.func72 chk72 h1 h2 h3 h4
  · exact con_chk Tryz.hL Tryz.func73 chk73 h1 h2 h3 h4
  · exact con_chk Tryz.hL Tryz.func74 chk74 h1 h2 h3 h4
  · exact con_chk Tryz.hL Tryz.func76 chk76 h1 h2 h3 h4
  · exact con_chk Tryz.hL Tryz.func91 chk91 h1 h2 h3 h4
  · exact con_chk Tryz.hL Tryz.func92 chk92 h1 h2 h3 h4
  · exact con_chk Tryz.hL Tryz.func108 chk108 h1 h2 h3 h4
  · exact con_chk Tryz.hL Tryz.func109 chk109 h1 h2 h3 h4

/-- answers of functions without a reading -/
def Tryz.cAns : List (FuncId × List D × D) := [(110, [.str [51, 47, 50], .str [47]], .int .i64 1),
  (110, [.str [51, 47, 54], .str [47]], .int .i64 1),
  (110, [.str [97, 32, 111, 118, 101, 114, 108, 105, 101, 115, 32, 97], .str [32]], .int .i64 1),
  (110, [.str [111, 118, 101, 114, 108, 105, 101, 115, 32, 97], .str [32]], .int .i64 8),
  (110, [.str [111, 118, 101, 114, 108, 105, 101, 115, 32, 115, 104, 97, 108, 101], .str [32]], .int .i64 8),
  (110, [.str [115, 97, 110, 100, 115, 116, 111, 110, 101, 32, 111, 118, 101, 114, 108, 105, 101, 115, 32, 115, 104, 97, 108, 101], .str [32]], .int .i64 9),
  (90, [.str [97, 32, 111, 118, 101, 114, 108, 105, 101, 115, 32, 97], .str [32]], .int .i64 2),
  (90, [.str [115, 97, 110, 100, 115, 116, 111, 110, 101, 32, 111, 118, 101, 114, 108, 105, 101, 115, 32, 115, 104, 97, 108, 101], .str [32]], .int .i64 2),
  (111, [.int .u32 2, .int .u32 0, .int .u32 0], .tup [.int .u32 2, .int .u32 0]),
  (111, [.int .u32 3, .int .u32 0, .int .u32 0], .tup [.int .u32 3, .int .u32 0]),
  (111, [.int .u32 6, .int .u32 0, .int .u32 0], .tup [.int .u32 6, .int .u32 0]),
  (112, [.int .u32 1, .int .u32 1, .int .u32 0], .tup [.int .u32 0, .int .u32 0]),
  (112, [.int .u32 3, .int .u32 1, .int .u32 0], .tup [.int .u32 2, .int .u32 0]),
  (112, [.int .u32 3, .int .u32 3, .int .u32 0], .tup [.int .u32 0, .int .u32 0]),
  (71, [.sl 0 [], .sl 1 [.int .u32 10]], .sl 0 []),
  (75, [.sl 1 [.int .u32 2]], .sl 1 [.int .u32 1]),
  (75, [.sl 1 [.int .u32 6]], .sl 1 [.int .u32 3]),
  (88, [.int .u64 1], .int .i64 1),
  (48, [.sl 1 [.str [115, 104, 97, 108, 101], .str [115, 97, 110, 100, 115, 116, 111, 110, 101]]], .sl 1 [.str [115, 104, 97, 108, 101], .str [115, 97, 110, 100, 115, 116, 111, 110, 101]])]
theorem Tryz.cAns_ok : ∀ q ∈ Tryz.cAns, Con Tryz.prog Tryz.L q.1 q.2.1 q.2.2 := by
  intro q hq
  simp only [Tryz.cAns, List.mem_cons, List.not_mem_nil, or_false] at hq
  rcases hq with rfl | rfl | rfl | rfl | rfl | rfl | rfl | rfl | rfl | rfl | rfl | rfl | rfl | rfl | rfl | rfl | rfl | rfl | rfl
  · exact Tryz.oIndex [51, 47, 50] 47 1 (by decide)
  · exact Tryz.oIndex [51, 47, 54] 47 1 (by decide)
  · exact Tryz.oIndex [97, 32, 111, 118, 101, 114, 108, 105, 101, 115, 32, 97] 32 1 (by decide)
  · exact Tryz.oIndex [111, 118, 101, 114, 108, 105, 101, 115, 32, 97] 32 8 (by decide)
  · exact Tryz.oIndex [111, 118, 101, 114, 108, 105, 101, 115, 32, 115, 104, 97, 108, 101] 32 8 (by decide)
  · exact Tryz.oIndex [115, 97, 110, 100, 115, 116, 111, 110, 101, 32, 111, 118, 101, 114, 108, 105, 101, 115, 32, 115, 104, 97, 108, 101] 32 9 (by decide)
  · exact Tryz.oCount [97, 32, 111, 118, 101, 114, 108, 105, 101, 115, 32, 97] 32 2 (by decide)
  · exact Tryz.oCount [115, 97, 110, 100, 115, 116, 111, 110, 101, 32, 111, 118, 101, 114, 108, 105, 101, 115, 32, 115, 104, 97, 108, 101] 32 2 (by decide)
  · exact Tryz.oAdd 2 (by omega)
  · exact Tryz.oAdd 3 (by omega)
  · exact Tryz.oAdd 6 (by omega)
  · exact Tryz.oSub11
  · exact Tryz.oSub31
  · exact Tryz.oSub33
  · exact Tryz.oMul
  · exact Tryz.oHalf2
  · exact Tryz.oHalf6
  · exact Tryz.oLen64 1 1 (by omega) (by decide)
  · exact Tryz.oCompA [115, 104, 97, 108, 101] [115, 97, 110, 100, 115, 116, 111, 110, 101]
theorem Tryz.cEv {k : Nat} {f : FuncId} {ds : List D} {r : D} (h : callX Tryz.cT (listO Tryz.cAns) 300 k f ds = some r) : Con Tryz.prog Tryz.L f ds r :=
  callX_con Tryz.cT_ok (listO_con Tryz.cAns_ok) k f ds r h
theorem Tryz.cNormal : Con Tryz.prog Tryz.L 26 [.sl 3 relN] (.tup [.sl 2 [.int .i64 2, .str [99], .str [97], .int .i64 4, .str [97], .str [98]], .int .i64 0]) :=
  Tryz.oNormal (Tryz.cEv (k := 12) (by kernel_rfl)) (Tryz.cEv (k := 12) (by kernel_rfl)) (Tryz.cEv (k := 12) (by kernel_rfl))
def Tryz.cAns2 : List (FuncId × List D × D) := (26, [.sl 3 relN], .tup [.sl 2 [.int .i64 2, .str [99], .str [97], .int .i64 4, .str [97], .str [98]], .int .i64 0]) :: Tryz.cAns
theorem Tryz.cAns2_ok : ∀ q ∈ Tryz.cAns2, Con Tryz.prog Tryz.L q.1 q.2.1 q.2.2 := by
  intro q hq
  rcases List.mem_cons.1 hq with rfl | hq
  · exact Tryz.cNormal
  · exact Tryz.cAns_ok q hq
/-- THE EXAMPLES OF CHAPTER 20 -/
theorem Tryz.cKnown : Con Tryz.prog Tryz.L 12 [] (.bool true) :=
  callX_con Tryz.cT_ok (listO_con Tryz.cAns2_ok) 12 _ _ _ (show callX Tryz.cT (listO Tryz.cAns2) 300 12 12 [] = some (.bool true) by kernel_rfl)
theorem Tryz.cAccepts : Con Tryz.prog Tryz.L 5 [] (.bool true) :=
  callX_con Tryz.cT_ok (listO_con Tryz.cAns2_ok) 12 _ _ _ (show callX Tryz.cT (listO Tryz.cAns2) 300 12 5 [] = some (.bool true) by kernel_rfl)
end Go.Proofs

/-
  CERTIFICATES: what the smallest cycle and the least order are, in terms of relations: plain. Own work.
-/
namespace Go.Tp
theorem arcsK_at {us : List (List UInt8)} {l : List Rl} : ∀ (k : Nat) (a : Ar), a ∈ arcsK us l k → ∃ x, l[a.i]? = some x ∧ x.k ≠ 4 ∧ a = arcAt us a.i x
  | 0, a, h => by cases h
  | k + 1, a, h => by
    unfold arcsK at h
    split at h
    · rename_i x hx
      split at h
      · exact arcsK_at k a h
      · rename_i h4
        rcases List.mem_append.1 h with h | h
        · exact arcsK_at k a h
        · rw [List.mem_singleton] at h
          subst h
          exact ⟨x, hx, h4, rfl⟩
    · exact arcsK_at k a h
theorem arcsK_mem {us : List (List UInt8)} {l : List Rl} {i : Nat} {x : Rl} (hx : l[i]? = some x) (h4 : x.k ≠ 4) : ∀ k, i < k → arcAt us i x ∈ arcsK us l k
  | 0, h => by omega
  | k + 1, h => by
    unfold arcsK
    by_cases e : i = k
    · subst e
      rw [hx]
      dsimp only
      rw [if_neg h4]
      exact List.mem_append_right _ (List.mem_singleton.2 rfl)
    · have ih := arcsK_mem (us := us) hx h4 k (by omega)
      split
      · split
        · exact ih
        · exact List.mem_append_left _ ih
      · exact ih
theorem arcs_one (us : List (List UInt8)) (l : List Rl) (k : Nat) : OneIx (arcsK us l k) := by
  intro x hx y hy e
  obtain ⟨u, h1, _, h3⟩ := arcsK_at k x hx
  obtain ⟨v, k1, _, k3⟩ := arcsK_at k y hy
  rw [e] at h1
  rw [h1] at k1
  cases k1
  rw [h3, k3, e]
theorem idx_inj {us : List (List UInt8)} {s t : List UInt8} (hs : s ∈ us) (ht : t ∈ us) (h : us.idxOf s = us.idxOf t) : s = t := by
  have h1 := List.getElem_idxOf (List.idxOf_lt_length_of_mem hs)
  have h2 := List.getElem_idxOf (List.idxOf_lt_length_of_mem ht)
  rw [← h1, ← h2]
  congr 1
theorem Lead.nexts : ∀ {q : List Ar} {v w : Nat}, Lead v q w → ∀ (k : Nat) (x y : Ar), q[k]? = some x → q[k + 1]? = some y → x.b = y.a
  | [], v, w, _, k, x, y, hx, _ => by simp at hx
  | z :: q, v, w, h, 0, x, y, hx, hy => by
    cases hx
    cases q with
    | nil => simp at hy
    | cons z2 q =>
      simp at hy
      subst hy
      exact h.2.1.symm
  | z :: q, v, w, h, k + 1, x, y, hx, hy => Lead.nexts h.2 k x y (by simpa using hx) (by simpa using hy)
theorem Lead.last : ∀ {q : List Ar} {v w : Nat}, Lead v q w → ∀ x : Ar, q[q.length - 1]? = some x → x.b = w
  | [], v, w, _, x, hx => by simp at hx
  | [z], v, w, h, x, hx => by
    simp at hx; subst hx; exact h.2
  | z :: z2 :: q, v, w, h, x, hx => by
    have := Lead.last (q := z2 :: q) h.2 x (by simpa using hx)
    exact this
theorem units_nodup (l : List Rl) : (unitsF l).Nodup := (usort_sorted (names l)).imp fun h e => by subst e; exact List.lt_irrefl _ h
/-- THE CYCLE LEADS ROUND -/
theorem cyc_ok {l : List Rl} (hl : l.length ≤ 200) {c : List Int} (h : cyclL l = some c) : ∃ c' : List Nat, c = c'.map (fun x : Nat => (x : Int)) ∧ CycOk l c' ∧ keptB l (unitsF l) = false := by
  have ha : ∀ x ∈ arcsF l, ArOk (unitsF l).length x := fun x hx => ((arcsF_ok l hl).2 x hx).1
  obtain ⟨a, p, rfl, h1, h2, h3⟩ := cycF_ok ha h
  generalize hq : a :: p = q at *
  have hat : ∀ x ∈ q, ∃ y, l[x.i]? = some y ∧ y.k ≠ 4 ∧ x = arcAt (unitsF l) x.i y := fun x hx => arcsK_at _ x (h2 x hx)
  have hmem := units_mem l
  refine ⟨q.map Ar.i, by rw [List.map_map]; rfl, ⟨by rw [← hq]; simp, fun i hi => ?_, fun k i j x y hi hj hx hy => ?_, fun k m i j x y hkm hi hj hx hy e => ?_⟩, ?_⟩
  · obtain ⟨x, hx, rfl⟩ := List.mem_map.1 hi
    obtain ⟨y, h4, h5, _⟩ := hat x hx
    exact ⟨y, h4, h5⟩
  · rw [List.length_map] at hi
    rw [List.getElem?_map] at hi hj
    obtain ⟨A, hA, rfl⟩ := Option.map_eq_some_iff.1 hi
    obtain ⟨B, hB, rfl⟩ := Option.map_eq_some_iff.1 hj
    obtain ⟨x', hx', _, eA⟩ := hat A (List.mem_of_getElem? hA)
    obtain ⟨y', hy', _, eB⟩ := hat B (List.mem_of_getElem? hB)
    rw [hx] at hx'; rw [hy] at hy'
    cases hx'; cases hy'
    have hkl := (List.getElem?_eq_some_iff.1 hB).1
    have hab : A.b = B.a := by
      by_cases hk : k = 0
      · subst hk
        rw [Nat.zero_add, Nat.mod_eq_of_lt (by omega)] at hA
        have e1 := h1.last A hA
        have e2 : B.a = a.a := by
          rw [← hq] at hB
          simp at hB
          rw [← hB]
        rw [e1, e2]
      · have : (k + q.length - 1) % q.length = k - 1 := by
          rw [show k + q.length - 1 = (k - 1) + q.length by omega, Nat.add_mod_right, Nat.mod_eq_of_lt (by omega)]
        rw [this] at hA
        exact h1.nexts (k - 1) A B hA (by rw [show k - 1 + 1 = k by omega]; exact hB)
    rw [eA, eB] at hab
    exact idx_inj (hmem x (List.mem_of_getElem? hx)).2 (hmem y (List.mem_of_getElem? hy)).1 hab
  · rw [List.getElem?_map] at hi hj
    obtain ⟨A, hA, rfl⟩ := Option.map_eq_some_iff.1 hi
    obtain ⟨B, hB, rfl⟩ := Option.map_eq_some_iff.1 hj
    obtain ⟨x', hx', _, eA⟩ := hat A (List.mem_of_getElem? hA)
    obtain ⟨y', hy', _, eB⟩ := hat B (List.mem_of_getElem? hB)
    rw [hx] at hx'; rw [hy] at hy'
    cases hx'; cases hy'
    obtain ⟨hk, rfl⟩ := List.getElem?_eq_some_iff.1 hA
    obtain ⟨hm, rfl⟩ := List.getElem?_eq_some_iff.1 hB
    have := List.pairwise_iff_getElem.1 h3 k m hk hm hkm
    apply this
    rw [eA, eB]
    show (unitsF l).idxOf x.l = (unitsF l).idxOf y.l
    rw [e]
  · cases hk : keptB l (unitsF l) with
    | false => rfl
    | true =>
      exfalso
      rw [← hq] at h1
      refine h1.up1 fun x hx => ?_
      rw [hq] at hx
      obtain ⟨y, h4, h5, e⟩ := hat x hx
      have := List.all_eq_true.1 hk y (List.mem_of_getElem? h4)
      simp only [decide_eq_true_eq] at this
      have h6 := this.resolve_left h5
      rw [e]
      exact h6
theorem idx_at {o : List (List UInt8)} (hn : o.Nodup) {k : Nat} {s : List UInt8} (h : o[k]? = some s) : o.idxOf s = k := by
  obtain ⟨hk, rfl⟩ := List.getElem?_eq_some_iff.1 h
  exact hn.idxOf_getElem k hk
/-- THE ORDER IS ONE -/
theorem ord_ok {l : List Rl} (hl : l.length ≤ 200) (h : cyclL l = none) : ordOk l ∧ (ordL l).Nodup ∧ (∀ x ∈ l, x.u ∈ ordL l ∧ x.l ∈ ordL l) ∧ keptB l (ordL l) = true := by
  have ha : ∀ x ∈ arcsF l, ArOk (unitsF l).length x := fun x hx => ((arcsF_ok l hl).2 x hx).1
  have hall : ordOk l := srt_all ha (arcs_one _ _ _) h
  obtain ⟨c, hki⟩ := srtF_ki ha
  have htopo := srt_topo ha
  have hlen : (srtF (unitsF l).length (arcsF l)).length = (unitsF l).length := hall
  have hd : (srtF (unitsF l).length (arcsF l)).Nodup := by simpa using hki.nd
  have hbd : ∀ x ∈ srtF (unitsF l).length (arcsF l), ∃ j : Nat, j < (unitsF l).length ∧ x = j := fun x hx => hki.bd x (by simpa using hx)
  have hmemS : ∀ j : Nat, j < (unitsF l).length → (j : Int) ∈ srtF (unitsF l).length (arcsF l) := by
    intro j hj
    by_cases hm : (j : Int) ∈ srtF (unitsF l).length (arcsF l)
    · exact hm
    · exfalso
      have h5 := nodup_bd (unitsF l).length (srtF (unitsF l).length (arcsF l) ++ [(j : Int)]) (by
        rw [List.nodup_append]
        exact ⟨hd, by simp, fun a ha' b hb e => by rw [List.mem_singleton] at hb; subst hb; subst e; exact hm ha'⟩) (fun x hx => by
        rcases List.mem_append.1 hx with hx | hx
        · exact hbd x hx
        · exact ⟨j, hj, List.mem_singleton.1 hx⟩)
      rw [List.length_append, List.length_singleton] at h5
      omega
  have hord : ∀ k j : Nat, (srtF (unitsF l).length (arcsF l))[k]? = some (j : Int) → (ordL l)[k]? = some ((unitsF l)[j]?.getD []) := by
    intro k j hk
    unfold ordL
    rw [List.getElem?_map, List.getElem?_map, hk]
    rfl
  have hun := units_nodup l
  have hON : (ordL l).Nodup := by
    rw [List.nodup_iff_pairwise_ne, List.pairwise_iff_getElem]
    intro i j hi hj hij e
    have hi' : i < (srtF (unitsF l).length (arcsF l)).length := by simpa [ordL] using hi
    have hj' : j < (srtF (unitsF l).length (arcsF l)).length := by simpa [ordL] using hj
    obtain ⟨a, ha1, ha2⟩ := hbd _ (List.getElem_mem hi')
    obtain ⟨b, hb1, hb2⟩ := hbd _ (List.getElem_mem hj')
    have ea := hord i a (by rw [List.getElem?_eq_getElem hi', ha2])
    have eb := hord j b (by rw [List.getElem?_eq_getElem hj', hb2])
    rw [List.getElem?_eq_getElem hi] at ea
    rw [List.getElem?_eq_getElem hj] at eb
    injection ea with ea
    injection eb with eb
    rw [ea, eb, List.getElem?_eq_getElem ha1, List.getElem?_eq_getElem hb1] at e
    simp only [Option.getD_some] at e
    have hab : a = b := by
      have h1 := hun.idxOf_getElem a ha1
      have h2 := hun.idxOf_getElem b hb1
      rw [← h1, ← h2, e]
    have := List.pairwise_iff_getElem.1 (List.nodup_iff_pairwise_ne.1 hd) i j hi' hj' hij
    exact this (by rw [ha2, hb2, hab])
  have hat : ∀ s ∈ unitsF l, ∃ k : Nat, (srtF (unitsF l).length (arcsF l))[k]? = some (((unitsF l).idxOf s : Nat) : Int) ∧ (ordL l)[k]? = some s := by
    intro s hs
    have hi := List.idxOf_lt_length_of_mem hs
    obtain ⟨k, hk⟩ := List.getElem?_of_mem (hmemS _ hi)
    refine ⟨k, hk, ?_⟩
    rw [hord k _ hk, List.getElem?_eq_getElem hi, List.getElem_idxOf hi]; rfl
  have hmem := units_mem l
  refine ⟨hall, hON, fun x hx => ?_, List.all_eq_true.2 fun x hx => decide_eq_true ?_⟩
  · obtain ⟨k1, _, e1⟩ := hat x.u (hmem x hx).2
    obtain ⟨k2, _, e2⟩ := hat x.l (hmem x hx).1
    exact ⟨List.mem_of_getElem? e1, List.mem_of_getElem? e2⟩
  · by_cases h4 : x.k = 4
    · exact .inl h4
    · right
      obtain ⟨i, hi⟩ := List.getElem?_of_mem hx
      have hA := arcsK_mem (us := unitsF l) hi h4 l.length (List.getElem?_eq_some_iff.1 hi).1
      obtain ⟨k, k1, k2⟩ := hat x.u (hmem x hx).2
      obtain ⟨j, hj, hj2⟩ := htopo _ hA k k1
      have e1 : (ordL l)[j]? = some x.l := by
        have hli := List.idxOf_lt_length_of_mem (hmem x hx).1
        rw [hord j _ hj2]
        show some ((unitsF l)[(unitsF l).idxOf x.l]?.getD []) = _
        rw [List.getElem?_eq_getElem hli, List.getElem_idxOf hli]; rfl
      rw [idx_at hON e1, idx_at hON k2]
      exact hj
end Go.Tp

/-
  CERTIFICATES: the relations that the law makes. Own work.
-/
namespace Go.Tp
open Go.Pi
/-- a description: its kind, its upper and its lower unit -/
structure Sn where
  k : Nat
  u : Nat
  l : Nat
def Sn.ok (x : Sn) : Prop := x.k < 256 ∧ x.u < 256 ∧ x.l < 256
def snD (x : Sn) : List D := [.int .u8 x.k, .int .u8 x.u, .int .u8 x.l]
abbrev sns (l : List Sn) : List D := rows snD l
abbrev snsD (l : List Sn) : D := .sl l.length (sns l)
theorem snD_len (x : Sn) : (snD x).length = 3 := rfl
theorem sns_len (l : List Sn) : (sns l).length = l.length * 3 := rows_length snD_len l
def unit (n : Nat) : List UInt8 := [UInt8.ofNat (97 + n % 8)]
def lowS (x : Sn) : Nat := if x.l % 8 = x.u % 8 then x.l % 8 + 1 else x.l % 8
def mkR1 (x : Sn) : Rl := ⟨1 + x.k % 4, unit x.u, unit (lowS x)⟩
def mkR (l : List Sn) : List Rl := l.map mkR1
theorem mkR_len (l : List Sn) : (mkR l).length = l.length := by simp [mkR]
theorem unit_inj {a b : Nat} (h : unit a = unit b) : a % 8 = b % 8 := by
  unfold unit at h
  injection h with h
  have := congrArg UInt8.toNat h
  simp at this
  omega
theorem sns_cut : ∀ {l : List Sn} {i : Nat} {x : Sn}, l[i]? = some x → List.take 3 (List.drop (i * 3) (sns l)) = snD x
  | y :: l, 0, x, h => by cases h; rfl
  | y :: l, i + 1, x, h => by
    have ih := sns_cut (l := l) (i := i) (x := x) (by simpa using h)
    rw [show (i + 1) * 3 = i * 3 + 3 by omega]
    exact ih
end Go.Tp
namespace Go.Proofs
open Go Go.Pi Go.RowKit Go.Tp
set_option maxRecDepth 100000 in
theorem Tryz.cUnit (n : Nat) (h : n < 256) : Con Tryz.prog Tryz.L 14 [.int .u8 n] (.str (unit n)) := by
  refine rule14 Tryz.hL rfl rfl rfl ?_
  (simp only [pc14, rs14, oU, oC]; refine ev ?_; try with_reducible exact trivial)
  have e : (n : Int).tmod 8 = ((n % 8 : Nat) : Int) := by rw [Int.tmod_eq_emod_of_nonneg (by omega)]; omega
  rw [e]
  refine ⟨by omega, ?_⟩
  refine ⟨rfl, unit n, ?_, ?_⟩
  rotate_left
  · (refine ev ?_; try with_reducible exact trivial)
  show [D.int .u8 ((UInt8.ofNat (97 + n % 8)).toNat : Int)] = [D.int .u8 (97 + ((n % 8 : Nat) : Int))]
  have : (UInt8.ofNat (97 + n % 8)).toNat = 97 + n % 8 := by simp; omega
  rw [this]; rfl
set_option maxRecDepth 100000 in
set_option maxHeartbeats 8000000 in
theorem Tryz.cMake (l : List Sn) (hl : l.length ≤ 8) (hk : ∀ x ∈ l, x.ok) : Con Tryz.prog Tryz.L 6 [snsD l] (.own true 42 l.length (rels (mkR l))) := by
  refine rule6 Tryz.hL rfl rfl rfl ?_
  (simp only [pc6, rs6, oU, oC]; refine ev ?_; try with_reducible exact trivial)
  refine loopF_of (fun E => ∃ k : Nat, k ≤ l.length ∧ E = [(0, snsD l), (3, .own true 42 k (rels (mkR (l.take k)))), (4, .int .i64 k)])
    (fun E => match lk E 4 with | .int _ i => l.length - i.toNat | _ => 0) ⟨0, Nat.zero_le _, rfl⟩ ?_
  rintro _ ⟨k, hkl, rfl⟩
  (refine ev ?_; try with_reducible exact trivial)
  refine ⟨fun hlt => ⟨fun _ => ?_, fun h => absurd (by omega) h⟩, fun hge => ?_⟩
  · have hx : l[k]? = some (l[k]'(by omega)) := List.getElem?_eq_getElem (by omega)
    generalize l[k]'(by omega) = x at hx
    obtain ⟨o1, o2, o3⟩ := hk x (List.mem_of_getElem? hx)
    have htk : l.take (k + 1) = l.take k ++ [x] := by rw [List.take_add_one, hx]; rfl
    have e1 : (x.l : Int).tmod 8 = ((x.l % 8 : Nat) : Int) := by rw [Int.tmod_eq_emod_of_nonneg (by omega)]; omega
    have e2 : (x.u : Int).tmod 8 = ((x.u % 8 : Nat) : Int) := by rw [Int.tmod_eq_emod_of_nonneg (by omega)]; omega
    have e3 : (x.k : Int).tmod 4 = ((x.k % 4 : Nat) : Int) := by rw [Int.tmod_eq_emod_of_nonneg (by omega)]; omega
    simp only [sns_cut hx, snD, evX, evY, evZ, forall_const, implies_true, initE, stepF, D.clean, mvF, moF, tkF, shF, ariF, ciF, catF, scF, ebF, eqF, eqOk, eqPr, enF, notF, ngF, cvF, csF, csbF, lenF, lenSF, ixF, iaF, PX.slot, iaAF, faF, ldF, D.mem, stF, bxF, mkSF, boundF, fldF, ixAF, mmF2, D.plain, D.isPure, optAll, D.dull, callVF, splice, D.cells, D.one, sets, resT, D.flat, D.flat0, D.simple, Nat.reduceBNe, Nat.reduceLT, reduceIte, Nat.reduceEqDiff, Nat.reduceAdd, Nat.reduceMul, Nat.reduceSub, Nat.reduceLeDiff, Int.reduceToNat, Int.reduceLT, Int.reduceLE, Int.reduceEq, Int.reduceNeg, Int.reduceSub, Int.reduceAdd, Int.reduceMul, stG_own, e1, e2, e3]
    have b : (0 : Int) ≤ k ∧ (k : Int) < l.length ∧ k * 3 + 3 ≤ (sns l).length := ⟨by omega, by omega, by rw [sns_len]; omega⟩
    refine ⟨b, by omega, b, by omega, fun he => ⟨⟨by omega, by omega⟩, b, by omega, ⟨by omega, by omega⟩, ⟨by omega, by omega⟩, b, by omega, ?_⟩, fun hne => ⟨b, by omega, ⟨by omega, by omega⟩, ⟨by omega, by omega⟩, b, by omega, ?_⟩⟩
    · refine callF_of (Tryz.cUnit x.u o2) ?_
      (refine ev ?_; try with_reducible exact trivial)
      have e4 : ((x.l % 8 : Nat) : Int) + 1 = ((x.l % 8 + 1 : Nat) : Int) := by omega
      have hlow : lowS x = x.l % 8 + 1 := if_pos (by omega)
      rw [e4]
      refine callF_of (Tryz.cUnit (x.l % 8 + 1) (by omega)) ?_
      (refine ev ?_; try with_reducible exact trivial)
      refine ⟨by omega, by omega, ⟨by omega, by omega⟩, ⟨k + 1, by omega, ?_, rfl⟩, by omega⟩
      rw [htk]
      have e9 : rels (mkR (l.take k ++ [x])) = rels (mkR (l.take k)) ++ relD (mkR1 x) := by simp [mkR, rels, rows]
      rw [e9]
      simp only [relD, mkR1, hlow, Int.natCast_add]
      rfl
    · refine callF_of (Tryz.cUnit x.u o2) ?_
      (refine ev ?_; try with_reducible exact trivial)
      have hlow : lowS x = x.l % 8 := if_neg (by omega)
      refine callF_of (Tryz.cUnit (x.l % 8) (by omega)) ?_
      (refine ev ?_; try with_reducible exact trivial)
      refine ⟨by omega, by omega, ⟨by omega, by omega⟩, ⟨k + 1, by omega, ?_, rfl⟩, by omega⟩
      rw [htk]
      have e9 : rels (mkR (l.take k ++ [x])) = rels (mkR (l.take k)) ++ relD (mkR1 x) := by simp [mkR, rels, rows]
      rw [e9]
      simp only [relD, mkR1, hlow, Int.natCast_add]
      rfl
  · obtain rfl : k = l.length := by omega
    rw [List.take_length]
end Go.Proofs
namespace Go.Tp
open Go Go.Pi Go.Proofs
theorem ins_len (x : List UInt8) : ∀ l : List (List UInt8), (ins x l).length ≤ l.length + 1
  | [] => by simp [ins]
  | y :: l => by
    have := ins_len x l
    unfold ins
    split
    · simp
    · split
      · simp
      · simp; omega
theorem usort_len : ∀ l : List (List UInt8), (usort l).length ≤ l.length
  | [] => by simp [usort]
  | x :: l => by
    have h1 := usort_len l
    have h2 := ins_len x (usort l)
    show (ins x (usort l)).length ≤ l.length + 1
    omega
theorem lowS_ne (x : Sn) : unit x.u ≠ unit (lowS x) := fun h => by
  have := unit_inj h
  unfold lowS at this
  split at this <;> omega
theorem mkR_good {l : List Sn} (hl : l.length ≤ 8) : GoodR (mkR l) ∧ ∀ x ∈ mkR l, 1 ≤ x.k ∧ x.k ≤ 4 := by
  refine ⟨⟨by rw [mkR_len]; omega, fun x hx => ?_, ?_⟩, fun x hx => ?_⟩
  · obtain ⟨y, _, rfl⟩ := List.mem_map.1 hx
    unfold RlOk relE
    have hn : ∀ m : Nat, m < 8 → nmB [UInt8.ofNat (97 + m)] = true := by decide
    rw [if_neg (fun h => h (by show 1 ≤ 1 + y.k % 4 ∧ 1 + y.k % 4 ≤ 4; omega)), if_neg (fun h => h ⟨hn _ (Nat.mod_lt _ (by omega)), hn _ (Nat.mod_lt _ (by omega))⟩), if_neg (show ¬(mkR1 y).u = (mkR1 y).l from lowS_ne y)]
  · have := usort_len (names (mkR l))
    rw [names_len, mkR_len] at this
    show (usort _).length ≤ 60
    omega
  · obtain ⟨y, _, rfl⟩ := List.mem_map.1 hx
    show 1 ≤ 1 + y.k % 4 ∧ 1 + y.k % 4 ≤ 4
    omega
end Go.Tp

/-
  CERTIFICATES: THE LAW. Own work.
-/
namespace Go.Tp
theorem pathK_len (arcs : List Ar) (d : List Int) (tg above : Nat) : ∀ (f v : Nat), (pathK arcs d tg above f v).length ≤ f
  | 0, v => Nat.le_refl _
  | f + 1, v => by
    unfold pathK
    split
    · exact Nat.zero_le _
    · split
      · rename_i b _
        have := pathK_len arcs d tg above f b.b
        rw [List.length_cons]; omega
      · exact Nat.zero_le _
theorem cyc_len {l : List Rl} {c : List Int} (h : cyclL l = some c) : c.length ≤ (unitsF l).length + 2 := by
  unfold cyclL cycF at h
  split at h
  · cases h
  · rename_i a _
    cases h
    have := pathK_len (arcsF l) (distF (unitsF l).length (arcsF l) a.a a.i) a.a a.i ((unitsF l).length + 1) a.b
    rw [List.length_cons]; omega
end Go.Tp
namespace Go.Proofs
open Go Go.Pi Go.RowKit Go.Tp
theorem Tryz.cKnownX : Con Tryz.prog Tryz.L 4 [] (.bool true) := by
  refine rule4 Tryz.hL rfl rfl rfl ?_
  (simp only [pc4, rs4, oU, oC]; refine ev ?_; try with_reducible exact trivial)
  refine callF_of Tryz.cKnown ?_
  (refine ev ?_; try with_reducible exact trivial)
set_option maxRecDepth 100000 in
set_option maxHeartbeats 8000000 in
theorem Tryz.topCert (l : List Sn) (hl : l.length ≤ 1048576) (hk : ∀ x ∈ l, x.ok) : Con Tryz.prog Tryz.L 3 [snsD l] (.bool true) := by
  refine rule3 Tryz.hL rfl rfl rfl ?_
  (simp only [pc3, rs3, oU, oC]; refine ev ?_; try with_reducible exact trivial)
  refine callF_of Tryz.cKnownX ?_
  (refine ev ?_; try with_reducible exact trivial)
  refine callF_of Tryz.cAccepts ?_
  (refine ev ?_; try with_reducible exact trivial)
  refine ⟨fun h8 => ?_, fun h8 => ?_⟩
  · refine callF_of Tryz.cKnownX ?_
    (refine ev ?_; try with_reducible exact trivial)
    refine callF_of Tryz.cAccepts ?_
    (refine ev ?_; try with_reducible exact trivial)
  · have h8' : l.length ≤ 8 := by omega
    obtain ⟨hg, hkk⟩ := mkR_good h8'
    have hml := mkR_len l
    have hR : Con Tryz.prog Tryz.L 6 [snsD l] (.own true 42 (mkR l).length (rels (mkR l))) := by rw [hml]; exact Tryz.cMake l h8' hk
    have hlen : (mkR l).length ≤ 8 := by rw [hml]; exact h8'
    generalize mkR l = r at *
    have hu := hg.2.2
    cases hc : cyclL r with
    | some c =>
      have hcl := cyc_len hc
      obtain ⟨c', rfl, hok, hnk⟩ := cyc_ok (by omega) hc
      rw [List.length_map] at hcl
      have hcy := Tryz.sCycle r hg
      rw [hc] at hcy
      simp only [Option.getD_some, Option.isSome_some, List.length_map] at hcy
      have ho := Tryz.ckOrder r (unitsF r) (by omega) (by omega) (units_nodup r) (fun x hx => ⟨(units_mem r x hx).2, (units_mem r x hx).1⟩) hkk
      rw [hnk] at ho
      refine callF_of hR ?_
      (refine ev ?_; try with_reducible exact trivial)
      refine callF_of hcy ?_
      (refine ev ?_; try with_reducible exact trivial)
      refine callF_of (Tryz.succUnits r hg) ?_
      (refine ev ?_; try with_reducible exact trivial)
      refine callF_of (Tryz.ckCycle r c' (by omega) (by omega) hkk hok) ?_
      (refine ev ?_; try with_reducible exact trivial)
      refine callF_of ho ?_
      (refine ev ?_; try with_reducible exact trivial)
    | none =>
      obtain ⟨hord, hnd, hmem, hkept⟩ := ord_ok (by omega) hc
      have hcy := Tryz.sCycle r hg
      rw [hc] at hcy
      simp only [Option.getD_none, Option.isSome_none, List.length_nil] at hcy
      have hol : (ordL r).length ≤ 200 := by
        have : (srtF (unitsF r).length (arcsF r)).length = (unitsF r).length := hord
        unfold ordL
        rw [List.length_map, List.length_map]; omega
      have ho := Tryz.ckOrder r (ordL r) (by omega) hol hnd hmem hkk
      rw [hkept] at ho
      refine callF_of hR ?_
      (refine ev ?_; try with_reducible exact trivial)
      refine callF_of hcy ?_
      (refine ev ?_; try with_reducible exact trivial)
      refine callF_of (Tryz.succUnits r hg) ?_
      (refine ev ?_; try with_reducible exact trivial)
      refine callF_of (Tryz.sorderY r hg hord) ?_
      (refine ev ?_; try with_reducible exact trivial)
      refine callF_of ho ?_
      (refine ev ?_; try with_reducible exact trivial)
end Go.Proofs
