/-
 SURD: add by hand (writes in the caller's own slice). Own work.
-/
import Derived.Test.YtokpkgcjjbdinaaGreatDoorSg
import Derived.Deep.RegionHeld3
import Derived.Deep.AppendLies
set_option linter.unusedVariables false
set_option linter.unusedSimpArgs false
namespace Go.Proofs
open Go Go.Pi Go.RowKit Go.Shelf Go.Ar

/-- the cells of a list of terms -/
def stc (x : Tm) : List Value := [.string ⟨(rt x.1).toArray⟩, .string ⟨(tz (x.2 : Int)).toArray⟩]
def tcs (l : List Tm) : List Value := l.flatMap stc
theorem tcs_len (l : List Tm) : (tcs l).length = l.length * 2 := by
 induction l with
 | nil => rfl
 | cons x l ih => show (stc x ++ tcs l).length = _; rw [List.length_append, ih, List.length_cons]; show 2 + _ = _; omega
theorem tcs_at : ∀ {l : List Tm} {k : Nat} {x : Tm}, l[k]? = some x → (tcs l)[k * 2]? = some (.string ⟨(rt x.1).toArray⟩) ∧ (tcs l)[k * 2 + 1]? = some (.string ⟨(tz (x.2 : Int)).toArray⟩)
 | y :: l, 0, x, h => by cases h; exact ⟨rfl, rfl⟩
 | y :: l, k + 1, x, h => by
   have ih := tcs_at (l := l) (k := k) (x := x) (by simpa using h)
   have e : ∀ j, (tcs (y :: l))[j + 2]? = (tcs l)[j]? := fun j => rfl
   rw [show (k + 1) * 2 = k * 2 + 2 by omega, show k * 2 + 2 + 1 = k * 2 + 1 + 2 by omega, e, e]
   exact ih
theorem tcs_set : ∀ (l : List Tm) (k : Nat) (y : Tm), k < l.length → ((tcs l).set (k * 2) (.string ⟨(rt y.1).toArray⟩)).set (k * 2 + 1) (.string ⟨(tz (y.2 : Int)).toArray⟩) = tcs (l.set k y)
 | x :: l, 0, y, h => rfl
 | x :: l, k + 1, y, h => by
   have ih := tcs_set l k y (by simpa using h)
   rw [show (k + 1) * 2 = k * 2 + 1 + 1 by omega, show k * 2 + 1 + 1 + 1 = (k * 2 + 1) + 1 + 1 by omega]
   exact congrArg (fun z => Value.string ⟨(rt x.1).toArray⟩ :: Value.string ⟨(tz (x.2 : Int)).toArray⟩ :: z) ih
theorem tcs_app (l m : List Tm) : tcs (l ++ m) = tcs l ++ tcs m := List.flatMap_append

/-- the sum of two terms whose roots are multiples of one -/
def mrg (u t : Tm) : Tm := if t.2 < u.2 then (t.1 + u.1 * mkRat (nrt (u.2 * t.2)) t.2, t.2) else (u.1 + t.1 * mkRat (nrt (u.2 * t.2)) u.2, u.2)
def addL : List Tm → Tm → List Tm
 | [], t => [t]
 | u :: s, t => if isq (u.2 * t.2) then mrg u t :: s else u :: addL s t
theorem addL_none {t : Tm} : ∀ {l : List Tm}, (∀ u ∈ l, ¬isq (u.2 * t.2)) → addL l t = l ++ [t]
 | [], _ => rfl
 | u :: s, h => by
   show (if isq (u.2 * t.2) then _ else _) = _
   rw [if_neg (h u (List.mem_cons_self ..)), addL_none fun v hv => h v (List.mem_cons_of_mem _ hv)]; rfl
theorem addL_hit {t : Tm} : ∀ {l : List Tm} {k : Nat} {u : Tm}, (∀ j v, j < k → l[j]? = some v → ¬isq (v.2 * t.2)) → l[k]? = some u → isq (u.2 * t.2) → addL l t = l.set k (mrg u t)
 | y :: l, 0, u, _, h, hq => by
   cases h
   show (if isq (y.2 * t.2) then _ else _) = _
   rw [if_pos hq]; rfl
 | y :: l, k + 1, u, hn, h, hq => by
   show (if isq (y.2 * t.2) then _ else _) = _
   rw [if_neg (hn 0 y (by omega) rfl), addL_hit (k := k) (fun j v hj hv => hn (j + 1) v (by omega) (by simpa using hv)) (by simpa using h) hq]; rfl

theorem gb_trans {a b c : World} {r : Option Nat} (h : a.grownBy b r) (h2 : b.grownBy c r) : a.grownBy c r :=
 ⟨h2.os.trans h.os, h2.tape.trans h.tape, h2.output.trans h.output, Nat.le_trans h.size h2.size, fun k hk hne => (h2.block k (Nat.lt_of_lt_of_le hk h.size) hne).trans (h.block k hk hne)⟩
theorem gb_below {a b : World} {r : Option Nat} (h : Below a.heap.size a b) : a.grownBy b r := ⟨h.os, h.tape, h.output, h.size, fun k hk _ => h.block k hk⟩
theorem gb_none {a b : World} {r : Option Nat} (h : a.grownBy b none) : a.grownBy b r := ⟨h.os, h.tape, h.output, h.size, fun k hk _ => h.block k hk (by simp)⟩

theorem alike_ret {S : Nat → Nat → Prop} {w : World} {s : List UInt8} {b : Bool} {v : Value} (h : Rep S w (.tup [.str s, .bool b]) v) : v = .tuple #[.string ⟨s.toArray⟩, .bool b] := by
 generalize hds : [D.str s, .bool b] = ds at h
 cases h with
 | tup _ vs hl' hh =>
   subst hds
   match vs, hl' with
   | [p, q], _ =>
     have h1 := hh 0 _ _ rfl rfl
     have h2 := hh 1 _ _ rfl rfl
     cases h1; cases h2; rfl
theorem gb_set {a b : World} {g j : Nat} {v : Value} (h : a.grownBy b none) (hg : a.heap.size ≤ g) : a.grownBy (b.setCell ⟨g, j, none⟩ v) none :=
 ⟨h.os, h.tape, h.output, by simpa using h.size, fun k hk hne => (heap_setCell_other b ⟨g, j, none⟩ k v (by show k ≠ g; omega)).trans (h.block k hk hne)⟩
theorem swap_x {w : World} {a b : Nat} {p q r s c d : Value} {t : TypeId} (hne : a ≠ b) (h : w.heap[b]? = some (.cells #[p, q] t (0, 0))) :
  ((((w.setCell ⟨a, 0, none⟩ r).setCell ⟨a, 1, none⟩ s).setCell ⟨b, 0, none⟩ c).setCell ⟨b, 1, none⟩ d).heap[b]? = some (.cells #[c, d] t (0, 0)) := by
 have h1 := (heap_setCell_other w ⟨a, 0, none⟩ b r (fun e => hne e.symm)).trans h
 have h2 := (heap_setCell_other _ ⟨a, 1, none⟩ b s (fun e => hne e.symm)).trans h1
 exact heap_setCell_same _ b 1 _ t d (heap_setCell_same _ b 0 _ t c h2)
theorem swap_u {w : World} {a b : Nat} {p q r s c d : Value} {t : TypeId} (hne : a ≠ b) (h : w.heap[a]? = some (.cells #[p, q] t (0, 0))) :
  ((((w.setCell ⟨a, 0, none⟩ r).setCell ⟨a, 1, none⟩ s).setCell ⟨b, 0, none⟩ c).setCell ⟨b, 1, none⟩ d).heap[a]? = some (.cells #[r, s] t (0, 0)) := by
 have h2 := heap_setCell_same _ a 1 _ t s (heap_setCell_same w a 0 _ t r h)
 have h3 := (heap_setCell_other _ ⟨b, 0, none⟩ a c (fun e => hne e)).trans h2
 exact (heap_setCell_other _ ⟨b, 1, none⟩ a d (fun e => hne e)).trans h3
theorem cells2 {W : World} {b : Nat} {p q : Value} {t : TypeId} {fr : Nat × Nat} (h : W.heap[b]? = some (.cells #[p, q] t fr)) : W.cell? ⟨b, 0, none⟩ = some p ∧ W.cell? ⟨b, 1, none⟩ = some q :=
 ⟨by rw [Lib.cell_of_heap h]; rfl, by rw [Lib.cell_of_heap h]; rfl⟩

set_option maxRecDepth 100000 in
set_option maxHeartbeats 4000000 in
theorem Tryz.sadd (w0 W : World) (v : Value) (l : List Tm) (x : Tm) (hL0 : Tryz.L w0) (hbw : Below w0.heap.size w0 W) (hown : W.ownsRow w0.heap.size 141 2 v l.length (tcs l)) (hlen : l.length ≤ 100)
  (hl : ∀ y ∈ l, rd y.1 ≤ 2000 ∧ 0 < y.2 ∧ dl (y.2 : Int) ≤ 200) (hx : rd x.1 ≤ 2000 ∧ 0 < x.2 ∧ dl (x.2 : Int) ≤ 200) :
  Calls Tryz.prog 122 #[v, .agg (stc x).toArray] W fun e W' => ∃ v', e = .returned v' ∧ W'.ownsRow w0.heap.size 141 2 v' (addL l x).length (tcs (addL l x)) ∧ W.grownBy W' v.ownBlock ∧ Below w0.heap.size w0 W' := by
 obtain ⟨x1, x2, x3⟩ := hx
 have mixed : Tryz.prog.follows .mixedOrders = true := by kernel_rfl
 have t0 := Tryz.underlying95; have a0 := Tryz.isAgg95; have z0 := Tryz.sizeOf95; have v0 := Tryz.zeroValue95; have u0 := run_underlying Tryz.underlying95
 have t1 := Tryz.underlying141; have a1 := Tryz.isAgg141; have z1 := Tryz.sizeOf141; have v1 := Tryz.zeroValue141; have u1 := run_underlying Tryz.underlying141
 have t3 := Tryz.underlying4; have a3 := Tryz.isAgg4; have z3 := Tryz.sizeOf4; have v3 := Tryz.zeroValue4; have u3 := run_underlying Tryz.underlying4
 have t4 := Tryz.underlying3; have a4 := Tryz.isAgg3; have z4 := Tryz.sizeOf3; have v4 := Tryz.zeroValue3; have u4 := run_underlying Tryz.underlying3
 have t6 := Tryz.underlying22; have a6 := Tryz.isAgg22; have z6 := Tryz.sizeOf22; have v6 := Tryz.zeroValue22; have u6 := run_underlying Tryz.underlying22
 have t7 := Tryz.underlying111; have a7 := Tryz.isAgg111; have z7 := Tryz.sizeOf111; have v7 := Tryz.zeroValue111; have u7 := run_underlying Tryz.underlying111
 have hinfo : (Tryz.prog.info? 141).map (fun i => (i.zero, i.size, i.bytes)) = some (some (.agg #[.string ⟨#[]⟩, .string ⟨#[]⟩]), 2, 32) := by kernel_rfl
 have vsl : ∃ ad cap, v = .slice ad l.length cap := by
  rcases hown.2 with ⟨h1, h2⟩ | ⟨g, cap, cur, h1, _⟩
  ·exact ⟨none, 0, by rw [h1, h2]⟩
  ·exact ⟨_, _, h1⟩
 obtain ⟨ad, cap, rfl⟩ := vsl
 show Calls _ _ #[_, .agg #[.string ⟨(rt x.1).toArray⟩, .string ⟨(tz (x.2 : Int)).toArray⟩]] _ _
 go_enter Tryz.func122, Tryz.ntmps122
 go_wp2
 have hG0 : W.grownBy (W.alloc (.cells #[.string ⟨(rt x.1).toArray⟩, .string ⟨(tz (x.2 : Int)).toArray⟩] 141)) none := World.grownBy_alloc _ _ _
 have hX0 : (W.alloc (.cells #[.string ⟨(rt x.1).toArray⟩, .string ⟨(tz (x.2 : Int)).toArray⟩] 141)).heap[W.heap.size]? = some (.cells #[.string ⟨(rt x.1).toArray⟩, .string ⟨(tz (x.2 : Int)).toArray⟩] 141 (0, 0)) := World.alloc_heap_new _ _
 generalize (W.alloc (.cells #[.string ⟨(rt x.1).toArray⟩, .string ⟨(tz (x.2 : Int)).toArray⟩] 141)) = W2 at *
 go_loopw [11] (fun i wr => ∃ k : Nat, k ≤ l.length ∧ i = .int .i64 k ∧ W.grownBy wr none ∧ wr.heap[W.heap.size]? = some (.cells #[.string ⟨(rt x.1).toArray⟩, .string ⟨(tz (x.2 : Int)).toArray⟩] 141 (0, 0)) ∧ ∀ j u, j < k → l[j]? = some u → ¬isq (u.2 * x.2)) (fun i _ => l.length - (intOf i).toNat)
 case atStart => exact ⟨0, Nat.zero_le _, rfl, hG0, hX0, fun j u hj => by omega⟩
 case round =>
  obtain ⟨k, hk, rfl, hGk, hXk, hno⟩ := hrel
  have hgs := hGk.size
  have hLW : ∀ w', W.grownBy w' none → Tryz.L w' := fun w' h => Tryz.hL w0 _ hL0 (hbw.grown h hbw.size (fun k hk => by cases hk))
  by_cases hlt : k < l.length
  ·have hex : ∃ u, l[k]? = some u := ⟨_, List.getElem?_eq_getElem hlt⟩
   obtain ⟨u, hu⟩ := hex
   obtain ⟨y1, y2, y3⟩ := hl u (List.mem_of_getElem? hu)
   have hadf : ∃ g, ad = some ⟨g, 0, none⟩ := by
    rcases hown.2 with ⟨h1, h2⟩ | ⟨g, cap, cur, h1, _⟩
    ·omega
    ·cases h1; exact ⟨g, rfl⟩
   obtain ⟨g, rfl⟩ := hadf
   have hownk := hown.kept hGk (.inr (by simp [Value.ownBlock]))
   have hg := hown.lt g rfl
   obtain ⟨cA, cB⟩ := tcs_at hu
   rw [← hownk.cellAt (k * 2) (by omega)] at cA
   rw [← hownk.cellAt (k * 2 + 1) (by omega)] at cB
   have hltX : W.heap.size < wr.heap.size := (Array.getElem?_eq_some_iff.1 hXk).1
   have hX4 : (wr.alloc (.cells #[.string ⟨(rt u.1).toArray⟩, .string ⟨(tz (u.2 : Int)).toArray⟩] 141)).heap[W.heap.size]? = some (.cells #[.string ⟨(rt x.1).toArray⟩, .string ⟨(tz (x.2 : Int)).toArray⟩] 141 (0, 0)) := (Below.heap_alloc _ _ _ hltX).trans hXk
   have hU4 : (wr.alloc (.cells #[.string ⟨(rt u.1).toArray⟩, .string ⟨(tz (u.2 : Int)).toArray⟩] 141)).heap[wr.heap.size]? = some (.cells #[.string ⟨(rt u.1).toArray⟩, .string ⟨(tz (u.2 : Int)).toArray⟩] 141 (0, 0)) := World.alloc_heap_new _ _
   have hG4 : W.grownBy (wr.alloc (.cells #[.string ⟨(rt u.1).toArray⟩, .string ⟨(tz (u.2 : Int)).toArray⟩] 141)) none := gb_trans hGk (World.grownBy_alloc _ _ _)
   have c4 : (wr.alloc (.cells #[.string ⟨(rt u.1).toArray⟩, .string ⟨(tz (u.2 : Int)).toArray⟩] 141)).cell? ⟨W.heap.size, 1, none⟩ = some (.string ⟨(tz (x.2 : Int)).toArray⟩) := by rw [Lib.cell_of_heap hX4]; rfl
   have hneX : wr.heap.size ≠ W.heap.size := by omega
   have c5 := (Tryz.salike u.2 x.2 (by omega) (by omega)).2 (fun _ _ => False) _ [.string ⟨(tz (u.2 : Int)).toArray⟩, .string ⟨(tz (x.2 : Int)).toArray⟩] (fun _ _ h => h.elim) (hLW _ hG4) (Reps.cons (.str _ (by have := tz_dl (u.2 : Int); unfold maxLen; omega)) (Reps.cons (.str _ (by have := tz_dl (x.2 : Int); unfold maxLen; omega)) .nil))
   by_cases hq : isq (u.2 * x.2)
   ·go_wp2_with (go_at_call 128; refine Calls.mono c5 ?_; rintro e W5 ⟨v, rfl, hb5, hr⟩; obtain rfl := alike_ret hr; rw [dB_t hq]; have hG5 := gb_trans hG4 (gb_below (r := none) hb5); have hX5 := below_heap hb5 hX4; have hU5 := below_heap hb5 hU4; obtain ⟨cu5, cu5'⟩ := cells2 hU5; obtain ⟨cx5, cx5'⟩ := cells2 hX5; clear hr hb5)
    have c6 := (Tryz.compare (x.2 : Int) (u.2 : Int) (by omega) (by omega)).2 (fun _ _ => False) W5 [.string ⟨(tz (x.2 : Int)).toArray⟩, .string ⟨(tz (u.2 : Int)).toArray⟩] (fun _ _ h => h.elim) (hLW _ hG5) (Reps.cons (.str _ (by have := tz_dl (x.2 : Int); unfold maxLen; omega)) (Reps.cons (.str _ (by have := tz_dl (u.2 : Int); unfold maxLen; omega)) .nil))
    refine Calls.mono c6 ?_
    rintro e W6 ⟨v, rfl, hb6, hr⟩
    obtain rfl : v = .int .i64 (cmpZ (x.2 : Int) (u.2 : Int)) := by cases hr; rfl
    clear hr c6
    have hX6 := below_heap hb6 hX5
    have hU6 := below_heap hb6 hU5
    have hG6 := gb_trans hG5 (gb_below (r := none) hb6)
    obtain ⟨cu6, cu6'⟩ := cells2 hU6
    obtain ⟨cx6, cx6'⟩ := cells2 hX6
    have fx6 := frozen_of_row W6 W.heap.size 0 _ _ hX6
    have fx6' := frozen_of_row W6 W.heap.size 1 _ _ hX6
    have fu6 := frozen_of_row W6 wr.heap.size 0 _ _ hU6
    have fu6' := frozen_of_row W6 wr.heap.size 1 _ _ hU6
    clear hb6 cx5 cx5' cu5 cu5'
    have hg1 : g ≠ wr.heap.size := by omega
    have hg2 : g ≠ W.heap.size := by omega
    have hg3 : wr.heap.size ≠ g := by omega
    have hg4 : W.heap.size ≠ g := by omega
    have i1 : (0 : Int) ≤ (k : Int) := Int.natCast_nonneg _
    have i2 : (k : Int) < (l.length : Int) := by omega
    by_cases hc : x.2 < u.2
    ·have ec : decide (cmpZ (x.2 : Int) (u.2 : Int) < 0) = true := by unfold cmpZ; simp; omega
     have hrm : rd (mkRat (nrt (u.2 * x.2)) x.2) ≤ 400 := rd_root (by omega) (by omega) (by omega)
     have hrp : rd (u.1 * mkRat (nrt (u.2 * x.2)) x.2) ≤ 2500 := by have := rd_mul u.1 (mkRat (nrt (u.2 * x.2)) x.2); omega
     go_wp2_with fail
     have hXs : ((((W6.setCell ⟨wr.heap.size, 0, none⟩ (.string ⟨(rt x.1).toArray⟩)).setCell ⟨wr.heap.size, 1, none⟩ (.string ⟨(tz (x.2 : Int)).toArray⟩)).setCell ⟨W.heap.size, 0, none⟩ (.string ⟨(rt u.1).toArray⟩)).setCell ⟨W.heap.size, 1, none⟩ (.string ⟨(tz (u.2 : Int)).toArray⟩)).heap[W.heap.size]? = some (.cells #[.string ⟨(rt u.1).toArray⟩, .string ⟨(tz (u.2 : Int)).toArray⟩] 141 (0, 0)) := swap_x hneX hX6
     have hUs : ((((W6.setCell ⟨wr.heap.size, 0, none⟩ (.string ⟨(rt x.1).toArray⟩)).setCell ⟨wr.heap.size, 1, none⟩ (.string ⟨(tz (x.2 : Int)).toArray⟩)).setCell ⟨W.heap.size, 0, none⟩ (.string ⟨(rt u.1).toArray⟩)).setCell ⟨W.heap.size, 1, none⟩ (.string ⟨(tz (u.2 : Int)).toArray⟩)).heap[wr.heap.size]? = some (.cells #[.string ⟨(rt x.1).toArray⟩, .string ⟨(tz (x.2 : Int)).toArray⟩] 141 (0, 0)) := swap_u hneX hU6
     have hGs : W.grownBy ((((W6.setCell ⟨wr.heap.size, 0, none⟩ (.string ⟨(rt x.1).toArray⟩)).setCell ⟨wr.heap.size, 1, none⟩ (.string ⟨(tz (x.2 : Int)).toArray⟩)).setCell ⟨W.heap.size, 0, none⟩ (.string ⟨(rt u.1).toArray⟩)).setCell ⟨W.heap.size, 1, none⟩ (.string ⟨(tz (u.2 : Int)).toArray⟩)) none := gb_set (gb_set (gb_set (gb_set hG6 hgs) hgs) (Nat.le_refl _)) (Nat.le_refl _)
     clear fx6 fx6' fu6 fu6' cu6 cu6' cx6 cx6'
     generalize ((((W6.setCell ⟨wr.heap.size, 0, none⟩ (.string ⟨(rt x.1).toArray⟩)).setCell ⟨wr.heap.size, 1, none⟩ (.string ⟨(tz (x.2 : Int)).toArray⟩)).setCell ⟨W.heap.size, 0, none⟩ (.string ⟨(rt u.1).toArray⟩)).setCell ⟨W.heap.size, 1, none⟩ (.string ⟨(tz (u.2 : Int)).toArray⟩)) = V at *
     have hGV : W.grownBy V.drew none := ⟨hGs.os, hGs.tape, hGs.output, hGs.size, hGs.block⟩
     have hXV : V.drew.heap[W.heap.size]? = some (.cells #[.string ⟨(rt u.1).toArray⟩, .string ⟨(tz (u.2 : Int)).toArray⟩] 141 (0, 0)) := hXs
     have hUV : V.drew.heap[wr.heap.size]? = some (.cells #[.string ⟨(rt x.1).toArray⟩, .string ⟨(tz (x.2 : Int)).toArray⟩] 141 (0, 0)) := hUs
     obtain ⟨cuV, cuV'⟩ := cells2 hUV
     obtain ⟨cxV, cxV'⟩ := cells2 hXV
     obtain ⟨cuS, cuS'⟩ := cells2 hUs
     obtain ⟨cxS, cxS'⟩ := cells2 hXs
     go_region_held3 (fun w' => w'.cell? ⟨wr.heap.size, 0, none⟩ = some (.string ⟨(rt x.1).toArray⟩) ∧ w'.cell? ⟨wr.heap.size, 1, none⟩ = some (.string ⟨(tz (x.2 : Int)).toArray⟩) ∧ w'.cell? ⟨W.heap.size, 0, none⟩ = some (.string ⟨(rt u.1).toArray⟩)) (go_keep)
      (first
       | (go_at_call 90; refine Calls.mono ((Tryz.over (nrt (u.2 * x.2) : Int) x.2 (by omega) (by have := dl_nrt (u.2 * x.2); have := dl_nmul u.2 x.2; omega) (by omega)).2 (fun _ _ => False) _ [.string ⟨(tz (nrt (u.2 * x.2) : Int)).toArray⟩, .string ⟨(tz (x.2 : Int)).toArray⟩] (fun _ _ h => h.elim) (hLW _ hGV) (Reps.cons (.str _ (by have := tz_dl (nrt (u.2 * x.2) : Int); have := dl_nrt (u.2 * x.2); have := dl_nmul u.2 x.2; unfold maxLen; omega)) (Reps.cons (.str _ (by have := tz_dl (x.2 : Int); unfold maxLen; omega)) .nil))) ?_; rintro e W7 ⟨v, rfl, hb7, hr7⟩; obtain rfl : v = .string ⟨(rt (mkRat (nrt (u.2 * x.2)) x.2)).toArray⟩ := (by cases hr7; rfl); clear hr7; have hU7 := below_heap hb7 hUV; have hX7 := below_heap hb7 hXV; have hG7 := gb_trans hGV (gb_below (r := none) hb7); obtain ⟨cu7, cu7'⟩ := cells2 hU7; obtain ⟨cx7, cx7'⟩ := cells2 hX7; clear hb7)
       | (go_at_call 29; refine Calls.mono ((Tryz.rmul u.1 (mkRat (nrt (u.2 * x.2)) x.2) (by omega) (by omega)).2 (fun _ _ => False) _ [.string ⟨(rt u.1).toArray⟩, .string ⟨(rt (mkRat (nrt (u.2 * x.2)) x.2)).toArray⟩] (fun _ _ h => h.elim) (hLW _ hG7) (Reps.cons (.str _ (by have := rt_len u.1; unfold maxLen; omega)) (Reps.cons (.str _ (by have := rt_len (mkRat (nrt (u.2 * x.2)) x.2); unfold maxLen; omega)) .nil))) ?_; rintro e W8 ⟨v, rfl, hb8, hr8⟩; obtain rfl : v = .string ⟨(rt (u.1 * mkRat (nrt (u.2 * x.2)) x.2)).toArray⟩ := (by cases hr8; rfl); clear hr8; have hU8 := below_heap hb8 hU7; have hX8 := below_heap hb8 hX7; have hG8 := gb_trans hG7 (gb_below (r := none) hb8); obtain ⟨cu8, cu8'⟩ := cells2 hU8; obtain ⟨cx8, cx8'⟩ := cells2 hX8; clear hb8)
       | (go_at_call 23; refine Calls.mono ((Tryz.radd x.1 (u.1 * mkRat (nrt (u.2 * x.2)) x.2) (by omega) (by omega)).2 (fun _ _ => False) _ [.string ⟨(rt x.1).toArray⟩, .string ⟨(rt (u.1 * mkRat (nrt (u.2 * x.2)) x.2)).toArray⟩] (fun _ _ h => h.elim) (hLW _ hG8) (Reps.cons (.str _ (by have := rt_len x.1; unfold maxLen; omega)) (Reps.cons (.str _ (by have := rt_len (u.1 * mkRat (nrt (u.2 * x.2)) x.2); unfold maxLen; omega)) .nil))) ?_; rintro e W9 ⟨v, rfl, hb9, hr9⟩; obtain rfl : v = .string ⟨(rt (x.1 + u.1 * mkRat (nrt (u.2 * x.2)) x.2)).toArray⟩ := (by cases hr9; rfl); clear hr9; have hU9 := below_heap hb9 hU8; have hX9 := below_heap hb9 hX8; have hG9 := gb_trans hG8 (gb_below (r := none) hb9); obtain ⟨cu9, cu9'⟩ := cells2 hU9; obtain ⟨cx9, cx9'⟩ := cells2 hX9; have hown9 := hown.kept hG9 (.inr (by simp [Value.ownBlock])); have f9 := hown9.frozenAt (k * 2); have f9' := hown9.frozenAt (k * 2 + 1); have d9 := (hown9.cellAt (k * 2) (by omega)).trans (tcs_at hu).1; have d9' := (hown9.cellAt (k * 2 + 1) (by omega)).trans (tcs_at hu).2; clear hb9))
     all_goals go_wp2_with fail
     all_goals go_ret
     have em : mrg u x = (x.1 + u.1 * mkRat (nrt (u.2 * x.2)) x.2, x.2) := by unfold mrg; rw [if_pos hc]
     have st1 := hown9.stored (k * 2) (.string ⟨(rt (x.1 + u.1 * mkRat (nrt (u.2 * x.2)) x.2)).toArray⟩)
     have st2 := st1.1.stored (k * 2 + 1) (.string ⟨(tz (x.2 : Int)).toArray⟩)
     have hgr := gb_trans (gb_trans (gb_none (r := some g) hG9) st1.2) st2.2
     refine ⟨.slice (some ⟨g, 0, none⟩) l.length cap, by simp, ?_, hgr, hbw.grown hgr hbw.size (fun k hk => by cases hk; exact hg.1)⟩
     rw [addL_hit hno hu hq, em, ← tcs_set l k _ hlt, List.length_set]
     exact st2.1
    ·have ec : decide (cmpZ (x.2 : Int) (u.2 : Int) < 0) = false := by unfold cmpZ; simp; omega
     have hrm : rd (mkRat (nrt (u.2 * x.2)) u.2) ≤ 400 := by rw [Nat.mul_comm]; exact rd_root (by omega) (by omega) (by omega)
     have hrp : rd (x.1 * mkRat (nrt (u.2 * x.2)) u.2) ≤ 2500 := by have := rd_mul x.1 (mkRat (nrt (u.2 * x.2)) u.2); omega
     go_wp2_with fail
     have hXs := hX6
     have hUs := hU6
     have hGs := hG6
     clear fx6 fx6' fu6 fu6' cu6 cu6' cx6 cx6'
     generalize W6 = V at *
     have hGV : W.grownBy V.drew none := ⟨hGs.os, hGs.tape, hGs.output, hGs.size, hGs.block⟩
     have hXV : V.drew.heap[W.heap.size]? = some (.cells #[.string ⟨(rt x.1).toArray⟩, .string ⟨(tz (x.2 : Int)).toArray⟩] 141 (0, 0)) := hXs
     have hUV : V.drew.heap[wr.heap.size]? = some (.cells #[.string ⟨(rt u.1).toArray⟩, .string ⟨(tz (u.2 : Int)).toArray⟩] 141 (0, 0)) := hUs
     obtain ⟨cuV, cuV'⟩ := cells2 hUV
     obtain ⟨cxV, cxV'⟩ := cells2 hXV
     obtain ⟨cuS, cuS'⟩ := cells2 hUs
     obtain ⟨cxS, cxS'⟩ := cells2 hXs
     go_region_held3 (fun w' => w'.cell? ⟨wr.heap.size, 0, none⟩ = some (.string ⟨(rt u.1).toArray⟩) ∧ w'.cell? ⟨wr.heap.size, 1, none⟩ = some (.string ⟨(tz (u.2 : Int)).toArray⟩) ∧ w'.cell? ⟨W.heap.size, 0, none⟩ = some (.string ⟨(rt x.1).toArray⟩)) (go_keep)
      (first
       | (go_at_call 90; refine Calls.mono ((Tryz.over (nrt (u.2 * x.2) : Int) u.2 (by omega) (by have := dl_nrt (u.2 * x.2); have := dl_nmul u.2 x.2; omega) (by omega)).2 (fun _ _ => False) _ [.string ⟨(tz (nrt (u.2 * x.2) : Int)).toArray⟩, .string ⟨(tz (u.2 : Int)).toArray⟩] (fun _ _ h => h.elim) (hLW _ hGV) (Reps.cons (.str _ (by have := tz_dl (nrt (u.2 * x.2) : Int); have := dl_nrt (u.2 * x.2); have := dl_nmul u.2 x.2; unfold maxLen; omega)) (Reps.cons (.str _ (by have := tz_dl (u.2 : Int); unfold maxLen; omega)) .nil))) ?_; rintro e W7 ⟨v, rfl, hb7, hr7⟩; obtain rfl : v = .string ⟨(rt (mkRat (nrt (u.2 * x.2)) u.2)).toArray⟩ := (by cases hr7; rfl); clear hr7; have hU7 := below_heap hb7 hUV; have hX7 := below_heap hb7 hXV; have hG7 := gb_trans hGV (gb_below (r := none) hb7); obtain ⟨cu7, cu7'⟩ := cells2 hU7; obtain ⟨cx7, cx7'⟩ := cells2 hX7; clear hb7)
       | (go_at_call 29; refine Calls.mono ((Tryz.rmul x.1 (mkRat (nrt (u.2 * x.2)) u.2) (by omega) (by omega)).2 (fun _ _ => False) _ [.string ⟨(rt x.1).toArray⟩, .string ⟨(rt (mkRat (nrt (u.2 * x.2)) u.2)).toArray⟩] (fun _ _ h => h.elim) (hLW _ hG7) (Reps.cons (.str _ (by have := rt_len x.1; unfold maxLen; omega)) (Reps.cons (.str _ (by have := rt_len (mkRat (nrt (u.2 * x.2)) u.2); unfold maxLen; omega)) .nil))) ?_; rintro e W8 ⟨v, rfl, hb8, hr8⟩; obtain rfl : v = .string ⟨(rt (x.1 * mkRat (nrt (u.2 * x.2)) u.2)).toArray⟩ := (by cases hr8; rfl); clear hr8; have hU8 := below_heap hb8 hU7; have hX8 := below_heap hb8 hX7; have hG8 := gb_trans hG7 (gb_below (r := none) hb8); obtain ⟨cu8, cu8'⟩ := cells2 hU8; obtain ⟨cx8, cx8'⟩ := cells2 hX8; clear hb8)
       | (go_at_call 23; refine Calls.mono ((Tryz.radd u.1 (x.1 * mkRat (nrt (u.2 * x.2)) u.2) (by omega) (by omega)).2 (fun _ _ => False) _ [.string ⟨(rt u.1).toArray⟩, .string ⟨(rt (x.1 * mkRat (nrt (u.2 * x.2)) u.2)).toArray⟩] (fun _ _ h => h.elim) (hLW _ hG8) (Reps.cons (.str _ (by have := rt_len u.1; unfold maxLen; omega)) (Reps.cons (.str _ (by have := rt_len (x.1 * mkRat (nrt (u.2 * x.2)) u.2); unfold maxLen; omega)) .nil))) ?_; rintro e W9 ⟨v, rfl, hb9, hr9⟩; obtain rfl : v = .string ⟨(rt (u.1 + x.1 * mkRat (nrt (u.2 * x.2)) u.2)).toArray⟩ := (by cases hr9; rfl); clear hr9; have hU9 := below_heap hb9 hU8; have hX9 := below_heap hb9 hX8; have hG9 := gb_trans hG8 (gb_below (r := none) hb9); obtain ⟨cu9, cu9'⟩ := cells2 hU9; obtain ⟨cx9, cx9'⟩ := cells2 hX9; have hown9 := hown.kept hG9 (.inr (by simp [Value.ownBlock])); have f9 := hown9.frozenAt (k * 2); have f9' := hown9.frozenAt (k * 2 + 1); have d9 := (hown9.cellAt (k * 2) (by omega)).trans (tcs_at hu).1; have d9' := (hown9.cellAt (k * 2 + 1) (by omega)).trans (tcs_at hu).2; clear hb9))
     all_goals go_wp2_with fail
     all_goals go_ret
     have em : mrg u x = (u.1 + x.1 * mkRat (nrt (u.2 * x.2)) u.2, u.2) := by unfold mrg; rw [if_neg hc]
     have st1 := hown9.stored (k * 2) (.string ⟨(rt (u.1 + x.1 * mkRat (nrt (u.2 * x.2)) u.2)).toArray⟩)
     have st2 := st1.1.stored (k * 2 + 1) (.string ⟨(tz (u.2 : Int)).toArray⟩)
     have hgr := gb_trans (gb_trans (gb_none (r := some g) hG9) st1.2) st2.2
     refine ⟨.slice (some ⟨g, 0, none⟩) l.length cap, by simp, ?_, hgr, hbw.grown hgr hbw.size (fun k hk => by cases hk; exact hg.1)⟩
     rw [addL_hit hno hu hq, em, ← tcs_set l k _ hlt, List.length_set]
     exact st2.1
   ·go_wp2_with (go_at_call 128; refine Calls.mono c5 ?_; rintro e W5 ⟨v, rfl, hb5, hr⟩; obtain rfl := alike_ret hr; rw [dB_f hq]; have hG5 := gb_trans hG4 (gb_below (r := none) hb5); have hX5 := below_heap hb5 hX4; clear hr hb5)
    refine ⟨⟨k + 1, by omega, by congr 1 <;> omega, hG5, hX5, fun j v hj hv => ?_⟩, by simp only [intOf]; omega⟩
    rcases Nat.lt_or_ge j k with h | h
    ·exact hno j v h hv
    ·obtain rfl : j = k := by omega
     rw [hu] at hv; cases hv; exact hq
  ·obtain rfl : k = l.length := by omega
   have hall : ∀ u ∈ l, ¬isq (u.2 * x.2) := fun u hu => by
    obtain ⟨j, hj, rfl⟩ := List.getElem_of_mem hu
    exact hno j _ hj (List.getElem?_eq_getElem hj)
   obtain ⟨i0, hi0, hz0, hz1, hz2⟩ := info_parts hinfo
   have hownk := hown.kept hGk (by cases ad <;> simp [Value.ownBlock])
   have cx : wr.cell? ⟨W.heap.size, 0, none⟩ = some (.string ⟨(rt x.1).toArray⟩) := by rw [Lib.cell_of_heap hXk]; rfl
   have cx' : wr.cell? ⟨W.heap.size, 1, none⟩ = some (.string ⟨(tz (x.2 : Int)).toArray⟩) := by rw [Lib.cell_of_heap hXk]; rfl
   go_wp2_with (at_builtin; refine wpList_append_own _ rfl _ _ 95 rfl w0.heap.size 141 i0 _ 2 32 Tryz.underlying95 hi0 hz0 hz1 hz2 rfl (by omega) _ l.length (tcs l) rfl (hownk.alloc _) ⟨wr.heap.size, 0, none⟩ 1 1 (stc x) rfl rfl (World.news_of_block (heap_alloc_new wr _)) (by simp [stc, Value.oneCell']) (by unfold maxLen; omega) (by omega) (by simp; have := hbw.size; omega) ?_; intro v' w' hown' hgrow' hnil')
   go_ret
   have hgr := gb_trans (gb_none hGk) (gb_trans (World.grownBy_alloc _ _ _) hgrow')
   refine ⟨v', by simp, ?_, hgr, hbw.grown hgr hbw.size (fun k hk => (hown.lt k hk).1)⟩
   rw [addL_none hall, tcs_app, List.length_append]
   exact hown'
end Go.Proofs
