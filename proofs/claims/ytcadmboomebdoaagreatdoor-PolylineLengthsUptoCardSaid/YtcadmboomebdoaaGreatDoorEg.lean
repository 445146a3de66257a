/-
 OWN ROWS of pairs of strings, read as data. Own work.
-/
import Derived.Test.YtcadmboomebdoaaGreatDoorPj
import Derived.Deep.AppendLies
import Derived.Test.YtcadmboomebdoaaGreatDoorEa
set_option linter.unusedVariables false
set_option linter.unusedSimpArgs false
namespace Go.Pi
open Go Go.RowKit

section
variable {α : Type} (f g : α → List UInt8)
/-- the cells of a pair, and its data -/
def enc2 (x : α) : List Value := [.string ⟨(f x).toArray⟩, .string ⟨(g x).toArray⟩]
def dat2 (x : α) : List D := [.str (f x), .str (g x)]
def cel2 (l : List α) : List Value := l.flatMap (enc2 f g)
theorem cel2_len (l : List α) : (cel2 f g l).length = l.length * 2 := by
 induction l with
 | nil => rfl
 | cons x l ih => show (enc2 f g x ++ cel2 f g l).length = _; rw [List.length_append, ih, List.length_cons]; show 2 + _ = _; omega
theorem cel2_at : ∀ {l : List α} {k : Nat} {x : α}, l[k]? = some x → (cel2 f g l)[k * 2]? = some (.string ⟨(f x).toArray⟩) ∧ (cel2 f g l)[k * 2 + 1]? = some (.string ⟨(g x).toArray⟩)
 | y :: l, 0, x, h => by cases h; exact ⟨rfl, rfl⟩
 | y :: l, k + 1, x, h => by
   have ih := cel2_at (l := l) (k := k) (x := x) (by simpa using h)
   have e : ∀ j, (cel2 f g (y :: l))[j + 2]? = (cel2 f g l)[j]? := fun j => rfl
   rw [show (k + 1) * 2 = k * 2 + 2 by omega, show k * 2 + 2 + 1 = k * 2 + 1 + 2 by omega, e, e]
   exact ih
theorem cel2_app (l m : List α) : cel2 f g (l ++ m) = cel2 f g l ++ cel2 f g m := List.flatMap_append
theorem cel2_take (l : List α) (k : Nat) (h : k ≤ l.length) : (cel2 f g l).take (k * 2) = cel2 f g (l.take k) := by
 conv => lhs; rw [← List.take_append_drop k l, cel2_app]
 rw [List.take_left' (by rw [cel2_len, List.length_take]; omega)]
theorem cel2_drop (l : List α) (k : Nat) (h : k ≤ l.length) : (cel2 f g l).drop (k * 2) = cel2 f g (l.drop k) := by
 conv => lhs; rw [← List.take_append_drop k l, cel2_app]
 rw [List.drop_left' (by rw [cel2_len, List.length_take]; omega)]
theorem cel2_one (l : List α) : ∀ u ∈ cel2 f g l, u.oneCell' = true := by
 intro u hu
 obtain ⟨x, _, hx⟩ := List.mem_flatMap.1 hu
 simp only [enc2, List.mem_cons, List.not_mem_nil, or_false] at hx
 rcases hx with rfl | rfl <;> rfl
variable {f g}
/-- an own row read as data -/
theorem rep_own2 {W : World} {S : Nat → Nat → Prop} {base e : Nat} {v : Value} {l : List α} (h : W.ownsRow base e 2 v l.length (cel2 f g l)) (hl : ∀ y ∈ l, (f y).length ≤ maxLen ∧ (g y).length ≤ maxLen) (hS : ∀ b j, base ≤ b → b < W.heap.size → S b j) :
  Rep S W (.sl l.length (l.flatMap (dat2 f g))) v := by
 have hr : ∀ (i : Nat) (d : D) (u : Value), (l.flatMap (dat2 f g))[i]? = some d → (cel2 f g l)[i]? = some u → Rep S W d u := by
  clear h
  induction l with
  | nil => intro i d u hd; simp at hd
  | cons x l ih =>
    obtain ⟨h1, h2⟩ := hl x (List.mem_cons_self ..)
    intro i d u hd hu
    match i with
    | 0 => cases hd; cases hu; exact .str _ h1
    | 1 => cases hd; cases hu; exact .str _ h2
    | i + 2 => exact ih (fun y hy => hl y (List.mem_cons_of_mem _ hy)) i d u hd hu
 have hlen : (l.flatMap (dat2 f g)).length = l.length * 2 := by
  clear h hr hl
  induction l with
  | nil => rfl
  | cons x l ih => rw [List.flatMap_cons, List.length_append, ih, List.length_cons]; show 2 + _ = _; omega
 have h1 : ∀ d ∈ l.flatMap (dat2 f g), d.one = true := by
  intro d hd
  obtain ⟨x, _, hx⟩ := List.mem_flatMap.1 hd
  simp only [dat2, List.mem_cons, List.not_mem_nil, or_false] at hx
  rcases hx with rfl | rfl <;> rfl
 rcases h.2 with ⟨rfl, h0⟩ | ⟨b, cap, cur, rfl, hbg, hg, hn, hc, _, _⟩
 ·obtain rfl : l = [] := List.length_eq_zero_iff.1 h0
  exact .sl0 none 0 (Nat.zero_le _)
 ·refine .sl l.length (l.flatMap (dat2 f g)) b 0 cap (cel2 f g l) (by rw [hlen, cel2_len]) h1 hn hc (fun i u hu => ⟨hS b _ hbg (Array.getElem?_eq_some_iff.1 hg).1, ?_⟩) hr
  have hlt := (List.getElem?_eq_some_iff.1 hu).1
  rw [cel2_len] at hlt
  rw [Nat.zero_add, h.cellAt i hlt]; exact hu
end
section
variable {α : Type} {f g : α → List UInt8}
theorem reps_cel2 {S : Nat → Nat → Prop} {w : World} : ∀ {l : List α} {vs : List Value}, Reps S w (l.flatMap (dat2 f g)) vs → vs = cel2 f g l
 | [], vs, h => by
   have := h.1
   exact List.length_eq_zero_iff.1 this.symm
 | x :: l, vs, h => by
   obtain ⟨v1, r1, rfl, h1, t1⟩ := Reps.uncons (ds := .str (g x) :: l.flatMap (dat2 f g)) (show Reps S w (.str (f x) :: .str (g x) :: l.flatMap (dat2 f g)) vs from h)
   obtain ⟨v2, r2, rfl, h2, t2⟩ := t1.uncons
   have e1 := h1.str_inv.1
   have e2 := h2.str_inv.1
   rw [reps_cel2 t2]
   subst e1; subst e2
   rfl
/-- an own slice that a contract returns is an own row -/
theorem own_of_res {P : Program} {S : Nat → Nat → Prop} {w w' : World} {e : TypeId} {l : List α} {v : Value} (hc : P.cellsOf e = 2) (h : Res P S w w' (.own true e l.length (l.flatMap (dat2 f g))) v) : w'.ownsRow w.heap.size e 2 v l.length (cel2 f g l) := by
 obtain ⟨ob, h1, h2⟩ := h
 simp only [OwnR] at h2
 refine ⟨cel2_len f g l, ?_⟩
 rcases h2 with ⟨_, rfl, h3, _⟩ | ⟨b, cap, arr, rfl, rfl, h3, h4, h5, h6, h7, h8, _⟩
 ·exact .inl ⟨rfl, h3⟩
 ·rw [hc] at h6 h8
  exact .inr ⟨b, cap, arr, rfl, (h1 b rfl).1, h3, h4, h5, h6, reps_cel2 h8⟩
end
/-- a longer row in the same block -/
theorem own_more {W : World} {base e sz b m n cap : Nat} {xs : List Value} (h : W.ownsRow base e sz (.slice (some ⟨b, 0, none⟩) m cap) m xs) (h1 : m ≤ n) (h2 : n ≤ cap) : ∃ ys, W.ownsRow base e sz (.slice (some ⟨b, 0, none⟩) n cap) n (xs ++ ys) := by
 rcases h.2 with ⟨h', _⟩ | ⟨b', cap', cur, h', hbg, hg, hmc, hcm, hcs, htk⟩
 ·simp at h'
 ·simp only [Value.slice.injEq, Option.some.injEq, Addr.mk.injEq, and_true, true_and] at h'
  obtain ⟨rfl, rfl⟩ := h'
  have e1 : cur.toList.take (n * sz) = xs ++ (cur.toList.take (n * sz)).drop (m * sz) := by
   conv => lhs; rw [← List.take_append_drop (m * sz) (cur.toList.take (n * sz))]
   rw [List.take_take, Nat.min_eq_left (Nat.mul_le_mul_right _ h1), htk]
  refine ⟨(cur.toList.take (n * sz)).drop (m * sz), ?_, .inr ⟨b, cap, cur, rfl, hbg, hg, h2, hcm, hcs, e1⟩⟩
  rw [← e1, List.length_take, Array.length_toList, hcs, Nat.min_eq_left (Nat.mul_le_mul_right _ h2)]
/-- a shorter row in the same block -/
theorem own_less {W : World} {base e sz b m n cap : Nat} {xs : List Value} (h : W.ownsRow base e sz (.slice (some ⟨b, 0, none⟩) n cap) n xs) (h1 : m ≤ n) : W.ownsRow base e sz (.slice (some ⟨b, 0, none⟩) m cap) m (xs.take (m * sz)) := by
 have hx := h.1
 rcases h.2 with ⟨h', _⟩ | ⟨b', cap', cur, h', hbg, hg, hmc, hcm, hcs, htk⟩
 ·simp at h'
 ·simp only [Value.slice.injEq, Option.some.injEq, Addr.mk.injEq, and_true, true_and] at h'
  obtain ⟨rfl, rfl⟩ := h'
  refine ⟨by rw [List.length_take, hx, Nat.min_eq_left (Nat.mul_le_mul_right _ h1)], .inr ⟨b, cap, cur, rfl, hbg, hg, by omega, hcm, hcs, ?_⟩⟩
  rw [← htk, List.take_take, Nat.min_eq_left (Nat.mul_le_mul_right _ h1)]
end Go.Pi
namespace Go.Pi
open Go Go.RowKit
variable {P : Program}
/-- an append that fits, at a step of a region whose order is open -/
theorem step_append_fits (w : World) {ops : Array Oper} {o : Oper} {a : Act} {K : Act → World → Prop} {Q : Exit → Act → World → Prop} {E : Prop} (hgd : o.guard = none) (s x : Operand) (t : TypeId)
  (ho : o.op = .call { callee := .builtin .append, args := #[s, x], argTypes := #[t, t] })
  (base : Nat) (e : TypeId) (i : TypeInfo) (size : Nat) (ht : P.underlying t = some (.slice e)) (hi : P.info? e = some i) (hsize : i.size = size)
  (g n cap : Nat) (xs : List Value) (hs : a.eval s = .slice (some ⟨g, 0, none⟩) n cap) (hown : w.ownsRow base e size (.slice (some ⟨g, 0, none⟩) n cap) n xs)
  (ad : Addr) (m c : Nat) (news : List Value) (hx : a.eval x = .slice (some ad) m c) (hl : news.length = m * size) (hnews : ∀ j u, news[j]? = some u → w.cell? (ad.add j) = some u) (h1 : ∀ u ∈ news, u.oneCell' = true)
  (hroom : n + m ≤ cap)
  (h : ∀ w', w'.ownsRow base e size (.slice (some ⟨g, 0, none⟩) (n + m) cap) (n + m) (xs ++ news) → w.grownBy w' (some g) → K (a.put o.dst (.slice (some ⟨g, 0, none⟩) (n + m) cap)) w') :
  if Region.wanted o (yielded ops a.tmps) = true then Oper.wp P o a w K Q else E := by
 have hw : Region.wanted o (yielded ops a.tmps) = true := by simp [Region.wanted, hgd]
 rw [if_pos hw]
 obtain ⟨w', hr, h2, h3⟩ := run_append_fits (P := P) w base t o.type e i size ht hi hsize g n cap xs hown ad m c news hl hnews h1 hroom
 unfold Oper.wp execOp
 simp only [ho, resolve, invoke, builtin, Sem.run_bind, Sem.run_pure, Result.andThen_ok, List.map_toArray, List.map_cons, List.map_nil, hs, hx, hr]
 exact h w' h2 h3
/-- clear(s[i:]) of an own row -/
theorem clear_row2 {w : World} {t e base n cap g i : Nat} {xs : List Value} {z : Value} (ht : P.underlying t = some (.slice e)) (hv : ∀ w, (zeroValue e).run P w = .ok z w) (hz : z.cells.size = 2) (hz1 : ∀ u ∈ z.cells, u.oneCell' = true)
  (h : w.ownsRow base e 2 (.slice (some ⟨g, 0, none⟩) n cap) n xs) (hi : i < n) :
  ∃ w', (∀ ty c, (Builtin.clear_ #[t] ty #[.slice (some ⟨g, i * 2, none⟩) (n - i) c]).run P w = .ok (.tuple #[]) w') ∧ w'.ownsRow base e 2 (.slice (some ⟨g, 0, none⟩) i cap) i (xs.take (i * 2)) ∧ w.grownBy w' (some g) := by
 have hxl := h.1
 rcases h.2 with ⟨h1, _⟩ | ⟨g', cap', cur, h1, hbg, hg, hnc, hcm, hcs, htk⟩
 ·simp at h1
 ·simp only [Value.slice.injEq, Option.some.injEq, Addr.mk.injEq, and_true, true_and] at h1
  obtain ⟨rfl, rfl⟩ := h1
  have hzs : (Builtin.zeroCells z.cells (n - i)).size = (n - i) * 2 := by rw [size_zeroCells, hz]
  have hfit : i * 2 + 0 + (Builtin.zeroCells z.cells (n - i)).toList.length ≤ cur.size := by rw [Array.length_toList, hzs, hcs]; omega
  have hone : ∀ u ∈ (Builtin.zeroCells z.cells (n - i)).toList, u.oneCell' = true := fun u hu => by
   obtain ⟨q, hq⟩ := List.getElem?_of_mem hu
   simp [Builtin.zeroCells, Array.getElem?_ofFn] at hq
   obtain ⟨hq1, _, rfl⟩ := hq
   have hlt : hq1 % z.cells.size < z.cells.size := Nat.mod_lt _ (by omega)
   rw [getElem!_pos z.cells _ hlt]
   exact hz1 _ (Array.getElem_mem hlt)
  have hex := run_storeCells_at P g (i * 2) e (Builtin.zeroCells z.cells (n - i)).toList 0 cur w hg hfit hone
  simp only [Nat.add_zero] at hex
  generalize hnew : (cur.toList.take (i * 2) ++ (Builtin.zeroCells z.cells (n - i)).toList ++ cur.toList.drop (i * 2 + (Builtin.zeroCells z.cells (n - i)).toList.length)).toArray = arr at hex
  have hnl : arr.toList = cur.toList.take (i * 2) ++ ((Builtin.zeroCells z.cells (n - i)).toList ++ cur.toList.drop (i * 2 + (Builtin.zeroCells z.cells (n - i)).toList.length)) := by rw [← hnew]; simp
  have e1 : (cur.toList.take (i * 2)).length = i * 2 := by rw [List.length_take, Array.length_toList]; omega
  refine ⟨w.setRow g arr, fun ty c => ?_, ⟨?_, .inr ⟨g, cap, arr, rfl, hbg, setRow_heap w g cur arr e (0, 0) hg, by omega, hcm, ?_, ?_⟩⟩, ⟨rfl, rfl, rfl, by simp, fun k _ hk => setRow_other w g k arr (fun e => hk (by simp [e]))⟩⟩
  ·obtain ⟨q, hq⟩ : ∃ q, n - i = q + 1 := ⟨n - i - 1, by omega⟩
   rw [hq] at hex ⊢
   simp [Builtin.clear_, run_underlying ht, hv, hex]
  ·rw [List.length_take]; omega
  ·have := congrArg List.length hnl
   rw [List.length_append, List.length_append, e1, List.length_drop, Array.length_toList, Array.length_toList, Array.length_toList] at this
   simp only [Array.length_toList] at hfit
   omega
  ·rw [hnl, List.take_left' e1, ← htk, List.take_take, Nat.min_eq_left (by omega)]
end Go.Pi
namespace Go.Pi
open Go Go.RowKit
theorem gr_trans {a b c : World} {r : Option Nat} (h : a.grownBy b r) (h2 : b.grownBy c r) : a.grownBy c r :=
 ⟨h2.os.trans h.os, h2.tape.trans h.tape, h2.output.trans h.output, Nat.le_trans h.size h2.size, fun k hk hn => (h2.block k (Nat.lt_of_lt_of_le hk h.size) hn).trans (h.block k hk hn)⟩
theorem gr_below {a b : World} {r : Option Nat} (h : Below a.heap.size a b) : a.grownBy b r := ⟨h.os, h.tape, h.output, h.size, fun k hk _ => h.block k hk⟩
theorem gr_self (a : World) {r : Option Nat} : a.grownBy a r := ⟨rfl, rfl, rfl, Nat.le_refl _, fun _ _ _ => rfl⟩
theorem gr_drew {a b : World} {r : Option Nat} (h : a.grownBy b r) : a.grownBy b.drew r := ⟨h.os, h.tape, h.output, h.size, h.block⟩
end Go.Pi
namespace Go.Pi
open Go Go.RowKit
theorem own_base {w : World} {base base' e sz : Nat} {v : Value} {n : Nat} {xs : List Value} (h : w.ownsRow base e sz v n xs) (hle : base' ≤ base) : w.ownsRow base' e sz v n xs := by
 refine ⟨h.1, ?_⟩
 rcases h.2 with h1 | ⟨g, cap, cur, h1, h2, h3⟩
 ·exact .inl h1
 ·exact .inr ⟨g, cap, cur, h1, Nat.le_trans hle h2, h3⟩
/-- a pair of strings as an argument -/
theorem rep_pair (S : Nat → Nat → Prop) (W : World) (a b : List UInt8) (h1 : a.length ≤ maxLen) (h2 : b.length ≤ maxLen) : Rep S W (.agg [.str a, .str b]) (.agg #[.string ⟨a.toArray⟩, .string ⟨b.toArray⟩]) := by
 refine Rep.agg [.str a, .str b] [.string ⟨a.toArray⟩, .string ⟨b.toArray⟩] rfl (by simp [D.one]) fun i d v hd hv => ?_
 match i with
 | 0 => cases hd; cases hv; exact .str _ h1
 | 1 => cases hd; cases hv; exact .str _ h2
 | i + 2 => simp at hd
end Go.Pi

/-
 PLANE GEOMETRY over the rational numbers: segments. Own work.
-/
namespace Go.Ge

abbrev Pt := Rat × Rat
/-- the doubled area of a triangle -/
def ar (a b c : Pt) : Rat := (b.1 - a.1) * (c.2 - a.2) - (b.2 - a.2) * (c.1 - a.1)
/-- the order of points -/
def le (a b : Pt) : Prop := a.1 < b.1 ∨ (a.1 = b.1 ∧ a.2 ≤ b.2)
theorem le_refl (a : Pt) : le a a := .inr ⟨rfl, Rat.le_refl⟩
theorem le_total (a b : Pt) : le a b ∨ le b a := by unfold le; grind
theorem le_trans {a b c : Pt} (h : le a b) (k : le b c) : le a c := by unfold le at *; grind
theorem le_antisymm {a b : Pt} (h : le a b) (k : le b a) : a = b := by
 have h1 : a.1 = b.1 := by unfold le at *; grind
 have h2 : a.2 = b.2 := by unfold le at *; grind
 exact Prod.ext h1 h2
/-- a place on a segment -/
def btw (a b p : Pt) : Prop := ar a b p = 0 ∧ (le a p ∧ le p b ∨ le b p ∧ le p a)
def onS (a b p : Pt) : Prop := ∃ t : Rat, 0 ≤ t ∧ t ≤ 1 ∧ p.1 = a.1 + t * (b.1 - a.1) ∧ p.2 = a.2 + t * (b.2 - a.2)
theorem onS_symm {a b p : Pt} (h : onS a b p) : onS b a p := by
 obtain ⟨t, h1, h2, h3, h4⟩ := h
 exact ⟨1 - t, by grind, by grind, by grind, by grind⟩
theorem onS_of_le {a b p : Pt} (h : ar a b p = 0) (h1 : le a p) (h2 : le p b) : onS a b p := by
 by_cases hx : a.1 = b.1
 ·by_cases hy : a.2 = b.2
  ·refine ⟨0, by decide, by decide, ?_, ?_⟩ <;> unfold le at * <;> grind
  ·have hy' : a.2 < b.2 := by unfold le at *; grind
   have hne : b.2 - a.2 ≠ 0 := by grind
   have e : (p.2 - a.2) / (b.2 - a.2) * (b.2 - a.2) = p.2 - a.2 := by grind
   have p1 : a.2 ≤ p.2 := by unfold le at *; grind
   have p2 : p.2 ≤ b.2 := by unfold le at *; grind
   generalize (p.2 - a.2) / (b.2 - a.2) = t at *
   refine ⟨t, ?_, ?_, by unfold le at *; grind, by grind⟩
   ·refine Rat.not_lt.1 fun h' => ?_
    have := Rat.mul_pos (show 0 < -t by grind) (show 0 < b.2 - a.2 by grind)
    grind
   ·refine Rat.not_lt.1 fun h' => ?_
    have := Rat.mul_pos (show 0 < t - 1 by grind) (show 0 < b.2 - a.2 by grind)
    grind
 ·have hx' : a.1 < b.1 := by unfold le at *; grind
  have hne : b.1 - a.1 ≠ 0 := by grind
  have e : (p.1 - a.1) / (b.1 - a.1) * (b.1 - a.1) = p.1 - a.1 := by grind
  have p1 : a.1 ≤ p.1 := by unfold le at *; grind
  have p2 : p.1 ≤ b.1 := by unfold le at *; grind
  generalize (p.1 - a.1) / (b.1 - a.1) = t at *
  refine ⟨t, ?_, ?_, by grind, ?_⟩
  ·refine Rat.not_lt.1 fun h' => ?_
   have := Rat.mul_pos (show 0 < -t by grind) (show 0 < b.1 - a.1 by grind)
   grind
  ·refine Rat.not_lt.1 fun h' => ?_
   have := Rat.mul_pos (show 0 < t - 1 by grind) (show 0 < b.1 - a.1 by grind)
   grind
  ·unfold ar at h
   have : (b.1 - a.1) * (p.2 - a.2 - t * (b.2 - a.2)) = 0 := by grind
   have := (Rat.mul_eq_zero.1 this).resolve_left hne
   grind
theorem btw_onS {a b p : Pt} : btw a b p ↔ onS a b p := by
 constructor
 ·rintro ⟨h, ⟨h1, h2⟩ | ⟨h1, h2⟩⟩
  ·exact onS_of_le h h1 h2
  ·exact onS_symm (onS_of_le (by unfold ar at *; grind) h1 h2)
 ·intro h
  have key : ∀ {a b : Pt}, onS a b p → le a b → le a p ∧ le p b := by
   intro a b ⟨t, t0, t1, e1, e2⟩ hab
   by_cases hx : a.1 = b.1
   ·have hy : a.2 ≤ b.2 := by unfold le at hab; grind
    have m1 := Rat.mul_nonneg t0 (show 0 ≤ b.2 - a.2 by grind)
    have m2 := Rat.mul_nonneg (show 0 ≤ 1 - t by grind) (show 0 ≤ b.2 - a.2 by grind)
    exact ⟨.inr ⟨by grind, by grind⟩, .inr ⟨by grind, by grind⟩⟩
   ·have hx' : a.1 < b.1 := by unfold le at hab; grind
    have m1 := Rat.mul_nonneg t0 (show 0 ≤ b.1 - a.1 by grind)
    have m2 := Rat.mul_nonneg (show 0 ≤ 1 - t by grind) (show 0 ≤ b.1 - a.1 by grind)
    constructor
    ·by_cases h0 : t = 0
     ·subst h0; exact .inr ⟨by grind, by grind⟩
     ·left
      have := Rat.mul_pos (show 0 < t by grind) (show 0 < b.1 - a.1 by grind)
      grind
    ·by_cases h0 : t = 1
     ·subst h0; exact .inr ⟨by grind, by grind⟩
     ·left
      have := Rat.mul_pos (show 0 < 1 - t by grind) (show 0 < b.1 - a.1 by grind)
      grind
  refine ⟨by obtain ⟨t, _, _, e1, e2⟩ := h; unfold ar; rw [e1, e2]; grind, ?_⟩
  rcases le_total a b with hab | hab
  ·exact .inl (key h hab)
  ·exact .inr (key (onS_symm h) hab)
theorem onS_left (a b : Pt) : onS a b a := ⟨0, by decide, by decide, by grind, by grind⟩
theorem onS_right (a b : Pt) : onS a b b := ⟨1, by decide, by decide, by grind, by grind⟩
end Go.Ge

/-
 PLANE GEOMETRY: how two segments meet: two ways to find it. Own work.
-/
namespace Go.Ge

instance (a b : Pt) : Decidable (le a b) := inferInstanceAs (Decidable (a.1 < b.1 ∨ (a.1 = b.1 ∧ a.2 ≤ b.2)))
instance (a b p : Pt) : Decidable (btw a b p) := inferInstanceAs (Decidable (ar a b p = 0 ∧ (le a p ∧ le p b ∨ le b p ∧ le p a)))
/-- how two segments meet -/
inductive Mt where
 | apart
 | touch (p : Pt)
 | over
def mn (a b : Pt) : Pt := if le a b then a else b
def mx (a b : Pt) : Pt := if le a b then b else a
theorem mn_cases (a b : Pt) : (mn a b = a ∧ le a b) ∨ (mn a b = b ∧ le b a) := by
 unfold mn
 split
 ·rename_i h; exact .inl ⟨rfl, h⟩
 ·rename_i h; exact .inr ⟨rfl, (le_total a b).resolve_left h⟩
theorem mx_cases (a b : Pt) : (mx a b = b ∧ le a b) ∨ (mx a b = a ∧ le b a) := by
 unfold mx
 split
 ·rename_i h; exact .inl ⟨rfl, h⟩
 ·rename_i h; exact .inr ⟨rfl, (le_total a b).resolve_left h⟩
/-- the program's, on one line -/
def colP (a b c d : Pt) : Mt :=
 let low := mx (mn a b) (mn c d)
 let high := mn (mx a b) (mx c d)
 if low = high then .touch low else if le low high then .over else .apart
/-- the place at a share of the way -/
def atK (c d : Pt) (p q : Rat) : Pt := (c.1 + p / (p - q) * (d.1 - c.1), c.2 + p / (p - q) * (d.2 - c.2))
/-- the program's -/
def meetP (a b c d : Pt) : Mt :=
 if ar a b c = 0 ∧ ar a b d = 0 then colP a b c d
 else if 0 < ar a b c * ar a b d ∨ 0 < ar c d a * ar c d b then .apart
 else .touch (atK c d (ar a b c) (ar a b d))
/-- the law's: the ends that both have -/
def onB (a b c d : Pt) (l : List Pt) : List Pt := l.foldl (fun o x => if btw a b x ∧ btw c d x then (if x ∈ o then o else o ++ [x]) else o) []
def meetL (a b c d : Pt) : Mt :=
 match onB a b c d [a, b, c, d] with
 | [x] => .touch x
 | _ :: _ :: _ => .over
 | [] => if 0 ≤ ar c d a * ar c d b ∨ 0 ≤ ar a b c * ar a b d then .apart else .touch (atK a b (ar c d a) (ar c d b))
theorem onB_mem (a b c d : Pt) : ∀ (n : Nat) (l : List Pt), l.length = n → (onB a b c d l).Nodup ∧ ∀ x, x ∈ onB a b c d l ↔ x ∈ l ∧ btw a b x ∧ btw c d x
 | 0, l, hl => by
   obtain rfl : l = [] := List.length_eq_zero_iff.1 hl
   exact ⟨.nil, fun x => by simp [onB]⟩
 | n + 1, l, hl => by
   obtain ⟨l', y, rfl⟩ : ∃ l' x, l = l' ++ [x] := ⟨l.dropLast, l.getLast (by intro e; rw [e] at hl; simp at hl), (List.dropLast_concat_getLast _).symm⟩
   obtain ⟨h1, h2⟩ := onB_mem a b c d n l' (by simpa using hl)
   have e : onB a b c d (l' ++ [y]) = if btw a b y ∧ btw c d y then (if y ∈ onB a b c d l' then onB a b c d l' else onB a b c d l' ++ [y]) else onB a b c d l' := by
    show List.foldl _ _ _ = _
    rw [List.foldl_append]; rfl
   rw [e]
   by_cases hc : btw a b y ∧ btw c d y
   ·rw [if_pos hc]
    by_cases hm : y ∈ onB a b c d l'
    ·rw [if_pos hm]
     refine ⟨h1, fun x => ?_⟩
     rw [h2]
     constructor
     ·rintro ⟨p, q⟩; exact ⟨List.mem_append_left _ p, q⟩
     ·rintro ⟨p, q⟩
      rcases List.mem_append.1 p with p | p
      ·exact ⟨p, q⟩
      ·rw [List.mem_singleton.1 p]; exact (h2 y).1 hm
    ·rw [if_neg hm]
     refine ⟨?_, fun x => ?_⟩
     ·rw [List.nodup_append]
      exact ⟨h1, by simp, fun u hu v hv e => by rw [List.mem_singleton.1 hv] at e; rw [e] at hu; exact hm hu⟩
     ·rw [List.mem_append, List.mem_append, h2, List.mem_singleton]
      constructor
      ·rintro (⟨p, q⟩ | rfl)
       ·exact ⟨.inl p, q⟩
       ·exact ⟨.inr rfl, hc⟩
      ·rintro ⟨p | rfl, q⟩
       ·exact .inl ⟨p, q⟩
       ·exact .inr rfl
   ·rw [if_neg hc]
    refine ⟨h1, fun x => ?_⟩
    rw [h2, List.mem_append, List.mem_singleton]
    constructor
    ·rintro ⟨p, q⟩; exact ⟨.inl p, q⟩
    ·rintro ⟨p | rfl, q⟩
     ·exact ⟨p, q⟩
     ·exact absurd q hc
/-- from the ends that both have to the law's answer -/
theorem meetL_none {a b c d : Pt} (h : ∀ x ∈ [a, b, c, d], ¬(btw a b x ∧ btw c d x)) : meetL a b c d = if 0 ≤ ar c d a * ar c d b ∨ 0 ≤ ar a b c * ar a b d then .apart else .touch (atK a b (ar c d a) (ar c d b)) := by
 obtain ⟨_, h2⟩ := onB_mem a b c d 4 [a, b, c, d] rfl
 have e : onB a b c d [a, b, c, d] = [] := List.eq_nil_iff_forall_not_mem.2 fun x hx => h x ((h2 x).1 hx).1 ((h2 x).1 hx).2
 unfold meetL
 rw [e]
theorem meetL_one {a b c d z : Pt} (hz : z ∈ [a, b, c, d]) (hc : btw a b z ∧ btw c d z) (h : ∀ x ∈ [a, b, c, d], btw a b x ∧ btw c d x → x = z) : meetL a b c d = .touch z := by
 obtain ⟨h1, h2⟩ := onB_mem a b c d 4 [a, b, c, d] rfl
 have hm := (h2 z).2 ⟨hz, hc⟩
 have hall : ∀ x ∈ onB a b c d [a, b, c, d], x = z := fun x hx => h x ((h2 x).1 hx).1 ((h2 x).1 hx).2
 unfold meetL
 generalize onB a b c d [a, b, c, d] = l at *
 match l with
 | [] => cases hm
 | [x] => rw [hall x (List.mem_cons_self ..)]
 | x :: y :: l =>
   have e1 := hall x (by simp)
   have e2 := hall y (by simp)
   obtain ⟨h3, _⟩ := List.nodup_cons.1 h1
   exact absurd (by rw [e1, ← e2]; exact List.mem_cons_self ..) h3
theorem meetL_two {a b c d z w : Pt} (hz : z ∈ [a, b, c, d]) (hc : btw a b z ∧ btw c d z) (hw : w ∈ [a, b, c, d]) (hc' : btw a b w ∧ btw c d w) (hne : z ≠ w) : meetL a b c d = .over := by
 obtain ⟨h1, h2⟩ := onB_mem a b c d 4 [a, b, c, d] rfl
 have hm := (h2 z).2 ⟨hz, hc⟩
 have hm' := (h2 w).2 ⟨hw, hc'⟩
 unfold meetL
 generalize onB a b c d [a, b, c, d] = l at *
 match l with
 | [] => cases hm
 | [x] => exact absurd ((List.mem_singleton.1 hm).trans (List.mem_singleton.1 hm').symm) hne
 | x :: y :: l => rfl
theorem ar_line {a b c d : Pt} {t : Rat} : ar a b (c.1 + t * (d.1 - c.1), c.2 + t * (d.2 - c.2)) = (1 - t) * ar a b c + t * ar a b d := by unfold ar; grind
theorem rat_sgn {p q : Rat} (h : ¬0 < p * q) (hn : ¬(p = 0 ∧ q = 0)) : p - q ≠ 0 ∧ 0 ≤ p / (p - q) ∧ p / (p - q) ≤ 1 := by
 have hne : p - q ≠ 0 := fun e => by
  have : p = q := by grind
  subst this
  rcases Rat.le_total (a := 0) (b := p) with h' | h'
  ·exact h (Rat.mul_pos (by grind) (by grind))
  ·have := Rat.mul_pos (show 0 < -p by grind) (show 0 < -p by grind)
   grind
 have e : p / (p - q) * (p - q) = p := by grind
 generalize p / (p - q) = t at *
 refine ⟨hne, ?_, ?_⟩
 ·refine Rat.not_lt.1 fun h' => ?_
  have h1 := Rat.mul_pos (show 0 < -t by grind) (show 0 < -t by grind)
  have h2 : 0 < (p - q) * (p - q) := by
   rcases Rat.le_total (a := 0) (b := p - q) with h3 | h3
   ·exact Rat.mul_pos (by grind) (by grind)
   ·have := Rat.mul_pos (show 0 < -(p - q) by grind) (show 0 < -(p - q) by grind)
    grind
  -- q = p - (p - q) = (t - 1) (p - q), p q = t (t - 1) (p - q)^2 > 0
  have h3 := Rat.mul_pos (show 0 < -t by grind) h2
  have h4 := Rat.mul_pos h1 h2
  have h5 : p * q = t * (t - 1) * ((p - q) * (p - q)) := by grind
  rw [h5] at h
  grind
 ·refine Rat.not_lt.1 fun h' => ?_
  have h2 : 0 < (p - q) * (p - q) := by
   rcases Rat.le_total (a := 0) (b := p - q) with h3 | h3
   ·exact Rat.mul_pos (by grind) (by grind)
   ·have := Rat.mul_pos (show 0 < -(p - q) by grind) (show 0 < -(p - q) by grind)
    grind
  have h4 := Rat.mul_pos (Rat.mul_pos (show 0 < t by grind) (show 0 < t - 1 by grind)) h2
  have h5 : p * q = t * (t - 1) * ((p - q) * (p - q)) := by grind
  rw [h5] at h
  grind
theorem btw_col {a b x : Pt} (h : ar a b x = 0) : btw a b x ↔ le (mn a b) x ∧ le x (mx a b) := by
 unfold btw
 rcases mn_cases a b with ⟨e1, h1⟩ | ⟨e1, h1⟩
 ·rcases mx_cases a b with ⟨e2, h2⟩ | ⟨e2, h2⟩
  ·rw [e1, e2]
   refine ⟨fun ⟨_, k⟩ => k.elim id fun ⟨k1, k2⟩ => ⟨le_trans h1 k1, le_trans k2 h1⟩, fun k => ⟨h, .inl k⟩⟩
  ·have e := le_antisymm h1 h2
   subst e
   rw [e1, e2]
   exact ⟨fun ⟨_, k⟩ => k.elim id id, fun k => ⟨h, .inl k⟩⟩
 ·rcases mx_cases a b with ⟨e2, h2⟩ | ⟨e2, h2⟩
  ·have e := le_antisymm h1 h2
   subst e
   rw [e1, e2]
   exact ⟨fun ⟨_, k⟩ => k.elim id id, fun k => ⟨h, .inl k⟩⟩
  ·rw [e1, e2]
   refine ⟨fun ⟨_, k⟩ => k.elim (fun ⟨k1, k2⟩ => ⟨le_trans h1 k1, le_trans k2 h1⟩) id, fun k => ⟨h, .inr k⟩⟩
/-- both ways find the same -/
theorem meet_eq {a b c d : Pt} (hab : a ≠ b) (hcd : c ≠ d) : meetP a b c d = meetL a b c d := by
 unfold meetP
 by_cases h0 : ar a b c = 0 ∧ ar a b d = 0
 ·rw [if_pos h0]
  obtain ⟨p0, q0⟩ := h0
  -- all four on both lines
  have hne : a.1 ≠ b.1 ∨ a.2 ≠ b.2 := by
   by_cases h : a.1 = b.1
   ·exact .inr fun h2 => hab (Prod.ext h h2)
   ·exact .inl h
  have u0 : ar c d a = 0 := by
   unfold ar at *
   rcases hne with h | h
   ·have : (b.1 - a.1) * ((d.1 - c.1) * (a.2 - c.2) - (d.2 - c.2) * (a.1 - c.1)) = 0 := by grind
    exact (Rat.mul_eq_zero.1 this).resolve_left (by grind)
   ·have : (b.2 - a.2) * ((d.1 - c.1) * (a.2 - c.2) - (d.2 - c.2) * (a.1 - c.1)) = 0 := by grind
    exact (Rat.mul_eq_zero.1 this).resolve_left (by grind)
  have v0 : ar c d b = 0 := by
   have : ar c d a - ar c d b = -(ar a b c - ar a b d) := by unfold ar; grind
   grind
  have hA : ∀ x ∈ [a, b, c, d], ar a b x = 0 ∧ ar c d x = 0 := by
   intro x hx
   simp only [List.mem_cons, List.not_mem_nil, or_false] at hx
   rcases hx with rfl | rfl | rfl | rfl
   ·exact ⟨by unfold ar; grind, u0⟩
   ·exact ⟨by unfold ar; grind, v0⟩
   ·exact ⟨p0, by unfold ar; grind⟩
   ·exact ⟨q0, by unfold ar; grind⟩
  have hC : ∀ x ∈ [a, b, c, d], (btw a b x ∧ btw c d x ↔ le (mx (mn a b) (mn c d)) x ∧ le x (mn (mx a b) (mx c d))) := by
   intro x hx
   rw [btw_col (hA x hx).1, btw_col (hA x hx).2]
   constructor
   ·rintro ⟨⟨k1, k2⟩, k3, k4⟩
    constructor
    ·rcases mx_cases (mn a b) (mn c d) with ⟨e, _⟩ | ⟨e, _⟩ <;> rw [e] <;> assumption
    ·rcases mn_cases (mx a b) (mx c d) with ⟨e, _⟩ | ⟨e, _⟩ <;> rw [e] <;> assumption
   ·rintro ⟨k1, k2⟩
    constructor
    ·constructor
     ·rcases mx_cases (mn a b) (mn c d) with ⟨e, k⟩ | ⟨e, k⟩ <;> rw [e] at k1
      ·exact le_trans k k1
      ·exact k1
     ·rcases mn_cases (mx a b) (mx c d) with ⟨e, k⟩ | ⟨e, k⟩ <;> rw [e] at k2
      ·exact k2
      ·exact le_trans k2 k
    ·constructor
     ·rcases mx_cases (mn a b) (mn c d) with ⟨e, k⟩ | ⟨e, k⟩ <;> rw [e] at k1
      ·exact k1
      ·exact le_trans k k1
     ·rcases mn_cases (mx a b) (mx c d) with ⟨e, k⟩ | ⟨e, k⟩ <;> rw [e] at k2
      ·exact le_trans k2 k
      ·exact k2
  have mL : mx (mn a b) (mn c d) ∈ [a, b, c, d] := by
   rcases mx_cases (mn a b) (mn c d) with ⟨e, _⟩ | ⟨e, _⟩ <;> rw [e]
   ·rcases mn_cases c d with ⟨e, _⟩ | ⟨e, _⟩ <;> rw [e] <;> simp
   ·rcases mn_cases a b with ⟨e, _⟩ | ⟨e, _⟩ <;> rw [e] <;> simp
  have mH : mn (mx a b) (mx c d) ∈ [a, b, c, d] := by
   rcases mn_cases (mx a b) (mx c d) with ⟨e, _⟩ | ⟨e, _⟩ <;> rw [e]
   ·rcases mx_cases a b with ⟨e, _⟩ | ⟨e, _⟩ <;> rw [e] <;> simp
   ·rcases mx_cases c d with ⟨e, _⟩ | ⟨e, _⟩ <;> rw [e] <;> simp
  unfold colP
  generalize mx (mn a b) (mn c d) = lo at *
  generalize mn (mx a b) (mx c d) = hi at *
  dsimp only
  by_cases he : lo = hi
  ·rw [if_pos he]
   subst he
   exact (meetL_one mL ((hC lo mL).2 ⟨le_refl _, le_refl _⟩) fun x hx hb => (le_antisymm ((hC x hx).1 hb).1 ((hC x hx).1 hb).2).symm).symm
  ·rw [if_neg he]
   by_cases hl : le lo hi
   ·rw [if_pos hl]
    exact (meetL_two mL ((hC lo mL).2 ⟨le_refl _, hl⟩) mH ((hC hi mH).2 ⟨hl, le_refl _⟩) he).symm
   ·rw [if_neg hl, meetL_none fun x hx hb => hl (le_trans ((hC x hx).1 hb).1 ((hC x hx).1 hb).2), u0, Rat.zero_mul, if_pos (.inl Rat.le_refl)]
 ·rw [if_neg h0]
  have side : ∀ {a b c d x : Pt}, 0 < ar a b c * ar a b d → btw c d x → ar a b x ≠ 0 := by
   intro a b c d x hp hb he
   obtain ⟨t, t0, t1, e1, e2⟩ := btw_onS.1 hb
   have hx : x = (c.1 + t * (d.1 - c.1), c.2 + t * (d.2 - c.2)) := Prod.ext e1 e2
   rw [hx, ar_line] at he
   generalize ar a b c = p at *
   generalize ar a b d = q at *
   -- multiply by p
   have k1 : (1 - t) * (p * p) + t * (p * q) = 0 := by grind
   have hpp : 0 < p * p := by
    have hpn : p ≠ 0 := fun h => by rw [h, Rat.zero_mul] at hp; grind
    rcases Rat.le_total (a := 0) (b := p) with h3 | h3
    ·exact Rat.mul_pos (by grind) (by grind)
    ·have := Rat.mul_pos (show 0 < -p by grind) (show 0 < -p by grind)
     grind
   have k2 := Rat.mul_nonneg (show 0 ≤ 1 - t by grind) (show 0 ≤ p * p by grind)
   have k3 := Rat.mul_nonneg t0 (show 0 ≤ p * q by grind)
   by_cases ht : t = 0
   ·subst ht; grind
   ·have := Rat.mul_pos (show 0 < t by grind) hp
    grind
  by_cases h1 : 0 < ar a b c * ar a b d ∨ 0 < ar c d a * ar c d b
  ·rw [if_pos h1, meetL_none fun x hx ⟨k1, k2⟩ => h1.elim (fun h => side h k2 k1.1) (fun h => side h k1 k2.1), if_pos (h1.elim (fun h => .inr (by grind)) (fun h => .inl (by grind)))]
  ·rw [if_neg h1]
   have h2 : ¬0 < ar a b c * ar a b d := fun h => h1 (.inl h)
   have h3 : ¬0 < ar c d a * ar c d b := fun h => h1 (.inr h)
   obtain ⟨hne, t0, t1⟩ := rat_sgn h2 h0
   have huv : ar c d a - ar c d b = -(ar a b c - ar a b d) := by unfold ar; grind
   obtain ⟨hne', s0, s1⟩ := rat_sgn h3 (fun h => hne (by grind))
   have hz : atK c d (ar a b c) (ar a b d) = atK a b (ar c d a) (ar c d b) := by
    unfold atK
    have e1 : ar a b c / (ar a b c - ar a b d) * (ar a b c - ar a b d) = ar a b c := by grind
    have e2 : ar c d a / (ar c d a - ar c d b) * (ar c d a - ar c d b) = ar c d a := by grind
    generalize ar a b c / (ar a b c - ar a b d) = t at *
    generalize ar c d a / (ar c d a - ar c d b) = s at *
    generalize hD : ar a b c - ar a b d = D at *
    have k1 : (c.1 + t * (d.1 - c.1) - (a.1 + s * (b.1 - a.1))) * D = 0 := by
     have : (c.1 + t * (d.1 - c.1) - (a.1 + s * (b.1 - a.1))) * D = (c.1 - a.1) * D + (t * D) * (d.1 - c.1) - (s * D) * (b.1 - a.1) := by grind
     rw [this, e1]
     have : s * D = -ar c d a := by grind
     rw [this, ← hD]
     unfold ar; grind
    have k2 : (c.2 + t * (d.2 - c.2) - (a.2 + s * (b.2 - a.2))) * D = 0 := by
     have : (c.2 + t * (d.2 - c.2) - (a.2 + s * (b.2 - a.2))) * D = (c.2 - a.2) * D + (t * D) * (d.2 - c.2) - (s * D) * (b.2 - a.2) := by grind
     rw [this, e1]
     have : s * D = -ar c d a := by grind
     rw [this, ← hD]
     unfold ar; grind
    have m1 := (Rat.mul_eq_zero.1 k1).resolve_right hne
    have m2 := (Rat.mul_eq_zero.1 k2).resolve_right hne
    exact Prod.ext (by show c.1 + t * (d.1 - c.1) = a.1 + s * (b.1 - a.1); grind) (by show c.2 + t * (d.2 - c.2) = a.2 + s * (b.2 - a.2); grind)
   have c1 : btw c d (atK c d (ar a b c) (ar a b d)) := btw_onS.2 ⟨_, t0, t1, rfl, rfl⟩
   have c2 : btw a b (atK c d (ar a b c) (ar a b d)) := by rw [hz]; exact btw_onS.2 ⟨_, s0, s1, rfl, rfl⟩
   have uniq : ∀ x, btw a b x ∧ btw c d x → x = atK c d (ar a b c) (ar a b d) := by
    rintro x ⟨k1, k2⟩
    obtain ⟨t, _, _, e1, e2⟩ := btw_onS.1 k2
    have hx : x = (c.1 + t * (d.1 - c.1), c.2 + t * (d.2 - c.2)) := Prod.ext e1 e2
    have k3 := k1.1
    rw [hx, ar_line] at k3
    have ht : t = ar a b c / (ar a b c - ar a b d) := by
     have e : ar a b c / (ar a b c - ar a b d) * (ar a b c - ar a b d) = ar a b c := by grind
     generalize ar a b c / (ar a b c - ar a b d) = s at *
     have : (t - s) * (ar a b c - ar a b d) = 0 := by grind
     have := (Rat.mul_eq_zero.1 this).resolve_right hne
     grind
    rw [hx, ht]; rfl
   have ends : (ar a b c = 0 → atK c d (ar a b c) (ar a b d) = c) ∧ (ar a b d = 0 → atK c d (ar a b c) (ar a b d) = d) := by
    constructor
    ·intro h
     unfold atK
     rw [h]
     exact Prod.ext (by show c.1 + 0 / _ * _ = c.1; grind) (by show c.2 + 0 / _ * _ = c.2; grind)
    ·intro h
     unfold atK
     have e : ar a b c / (ar a b c - ar a b d) = 1 := by rw [h] at hne ⊢; grind
     rw [e]
     exact Prod.ext (by show c.1 + 1 * _ = d.1; grind) (by show c.2 + 1 * _ = d.2; grind)
   have ends' : (ar c d a = 0 → atK c d (ar a b c) (ar a b d) = a) ∧ (ar c d b = 0 → atK c d (ar a b c) (ar a b d) = b) := by
    rw [hz]
    constructor
    ·intro h
     unfold atK
     rw [h]
     exact Prod.ext (by show a.1 + 0 / _ * _ = a.1; grind) (by show a.2 + 0 / _ * _ = a.2; grind)
    ·intro h
     unfold atK
     have e : ar c d a / (ar c d a - ar c d b) = 1 := by rw [h] at hne' ⊢; grind
     rw [e]
     exact Prod.ext (by show a.1 + 1 * _ = b.1; grind) (by show a.2 + 1 * _ = b.2; grind)
   by_cases hm : atK c d (ar a b c) (ar a b d) ∈ [a, b, c, d]
   ·exact (meetL_one hm ⟨c2, c1⟩ fun x _ h => uniq x h).symm
   ·have n1 : ar a b c ≠ 0 := fun h => hm (by rw [ends.1 h]; simp)
    have n2 : ar a b d ≠ 0 := fun h => hm (by rw [ends.2 h]; simp)
    have n3 : ar c d a ≠ 0 := fun h => hm (by rw [ends'.1 h]; simp)
    have n4 : ar c d b ≠ 0 := fun h => hm (by rw [ends'.2 h]; simp)
    rw [meetL_none fun x hx h => hm (by rw [← uniq x h]; exact hx), if_neg, hz]
    rintro (h | h)
    ·rcases Rat.mul_eq_zero.1 (Rat.le_antisymm (Rat.not_lt.1 h3) h) with h | h
     ·exact n3 h
     ·exact n4 h
    ·rcases Rat.mul_eq_zero.1 (Rat.le_antisymm (Rat.not_lt.1 h2) h) with h | h
     ·exact n1 h
     ·exact n2 h
end Go.Ge

/-
 PLANE GEOMETRY: when two sides of a chain or of a ring have more in common than they may: two ways. Own work.
-/
namespace Go.Ge

/-- how many places two segments have in common, at most two -/
def Mt.num : Mt → Nat
 | .apart => 0
 | .touch _ => 1
 | .over => 2
/-- the only common place of ends -/
theorem meetL_touch {a b c d p : Pt} (h : meetL a b c d = .touch p) {x : Pt} (hx : x ∈ [a, b, c, d]) (hb : btw a b x ∧ btw c d x) : x = p := by
 obtain ⟨h1, h2⟩ := onB_mem a b c d 4 [a, b, c, d] rfl
 have hm := (h2 x).2 ⟨hx, hb⟩
 unfold meetL at h
 generalize onB a b c d [a, b, c, d] = l at *
 match l with
 | [] => cases hm
 | [y] => cases h; exact List.mem_singleton.1 hm
 | y :: z :: l => cases h
/-- may two sides meet once? -/
def next (n segs i k : Nat) : Prop := k = i + 1 ∨ (segs = n ∧ i = 0 ∧ k = n - 1)
instance (n segs i k : Nat) : Decidable (next n segs i k) := inferInstanceAs (Decidable (k = i + 1 ∨ (segs = n ∧ i = 0 ∧ k = n - 1)))
/-- the program's test -/
def crossP (g : Nat → Pt) (n segs i k : Nat) : Prop :=
 match meetP (g i) (g ((i + 1) % n)) (g k) (g ((k + 1) % n)) with
 | .apart => False
 | .over => True
 | .touch p => if ¬next n segs i k then True else if k = i + 1 ∧ p = g k then False else p ≠ g i ∨ k ≠ n - 1
/-- the law's test -/
def crossL (g : Nat → Pt) (n segs i k : Nat) : Prop := (if next n segs i k then 1 else 0) < (meetL (g i) (g ((i + 1) % n)) (g k) (g ((k + 1) % n))).num
theorem cross_eq {g : Nat → Pt} {n segs i k : Nat} (hs : segs = n ∨ segs + 1 = n) (hn : 2 ≤ n) (hik : i < k) (hk : k < segs) (hne : ∀ j, j < segs → g j ≠ g ((j + 1) % n)) : crossP g n segs i k ↔ crossL g n segs i k := by
 unfold crossP crossL
 rw [meet_eq (hne i (by omega)) (hne k hk)]
 generalize hm : meetL (g i) (g ((i + 1) % n)) (g k) (g ((k + 1) % n)) = m
 cases m with
 | apart => simp [Mt.num]
 | over => simp only [Mt.num, true_iff]; split <;> omega
 | touch p =>
   by_cases hx : next n segs i k
   ·simp only [hx, not_true, if_false, if_true, Mt.num]
    have e1 : (i + 1) % n = i + 1 := Nat.mod_eq_of_lt (by omega)
    by_cases h1 : k = i + 1
    ·have hp : g k = p := by
      refine meetL_touch hm (by simp) ⟨?_, btw_onS.2 (onS_left _ _)⟩
      rw [e1, ← h1]; exact btw_onS.2 (onS_right _ _)
     simp [h1, ← hp]
    ·rcases hx with h2 | ⟨h2, h3, h4⟩
     ·exact absurd h2 h1
     ·have e2 : (k + 1) % n = 0 := by rw [h4, show n - 1 + 1 = n by omega, Nat.mod_self]
      have hp : g i = p := by
       refine meetL_touch hm (by simp) ⟨btw_onS.2 (onS_left _ _), ?_⟩
       rw [e2, h3]; exact btw_onS.2 (onS_right _ _)
      simp only [h1, false_and, if_false, ← hp]
      simp [h4]
   ·simp [hx, Mt.num]
end Go.Ge

/-
 PLANE GEOMETRY: inside or outside, by the sides to the east and by the sides above. Own work.
-/
namespace Go.Ge

/-- a side to the east of a place: the program's test -/
def eastP (a b p : Pt) : Prop :=
 if b.2 < a.2 then b.2 ≤ p.2 ∧ p.2 < a.2 ∧ 0 < ar b a p else a.2 ≤ p.2 ∧ p.2 < b.2 ∧ 0 < ar a b p
/-- a side above a place: the law's test -/
def northP (a b p : Pt) : Prop :=
 if b.1 < a.1 then b.1 ≤ p.1 ∧ p.1 < a.1 ∧ ar b a p < 0 else a.1 ≤ p.1 ∧ p.1 < b.1 ∧ ar a b p < 0
instance (a b p : Pt) : Decidable (eastP a b p) := by unfold eastP; infer_instance
instance (a b p : Pt) : Decidable (northP a b p) := by unfold northP; infer_instance
def ne1 (p v : Pt) : Prop := p.1 < v.1 ∧ p.2 < v.2
instance (p v : Pt) : Decidable (ne1 p v) := inferInstanceAs (Decidable (p.1 < v.1 ∧ p.2 < v.2))
theorem sgp (u v : Rat) : (0 < u → 0 < v → 0 < u * v) ∧ (0 ≤ u → v ≤ 0 → u * v ≤ 0) ∧ (u ≤ 0 → 0 ≤ v → u * v ≤ 0) ∧ (u ≤ 0 → v ≤ 0 → 0 ≤ u * v) := by
 refine ⟨Rat.mul_pos, fun h k => ?_, fun h k => ?_, fun h k => ?_⟩
 ·have := Rat.mul_nonneg h (show 0 ≤ -v by grind); grind
 ·have := Rat.mul_nonneg (show 0 ≤ -u by grind) k; grind
 ·have := Rat.mul_nonneg (show 0 ≤ -u by grind) (show 0 ≤ -v by grind); grind
/-- inside or outside, side by side -/
def sE (g : Nat → Pt) (n : Nat) (p : Pt) : Nat → Int
 | 0 => -1
 | k + 1 => if eastP (g k) (g ((k + 1) % n)) p then 0 - sE g n p k else sE g n p k
def sN (g : Nat → Pt) (n : Nat) (p : Pt) : Nat → Int
 | 0 => -1
 | k + 1 => if northP (g k) (g ((k + 1) % n)) p then 0 - sN g n p k else sN g n p k
end Go.Ge

/-
 PLANE GEOMETRY: the area of a ring: from any point on, and turned round. Own work.
-/
namespace Go.Ge

def cr (u v : Pt) : Rat := u.1 * v.2 - u.2 * v.1
/-- the way from x over l, closed to h -/
def wayS (h x : Pt) : List Pt → Rat
 | [] => cr x h
 | y :: l => cr x y + wayS h y l
def cyc : List Pt → Rat
 | [] => 0
 | a :: l => wayS a a l
/-- the sum of the steps of a list -/
def path : List Pt → Rat
 | [] => 0
 | [_] => 0
 | a :: b :: l => cr a b + path (b :: l)
/-- triangles from the first point -/
def fan (a : Pt) : Pt → List Pt → Rat
 | _, [] => 0
 | x, y :: l => ar a x y + fan a y l
end Go.Ge

/-
 PLANE GEOMETRY: chains: what is wrong with one; leaving out points. Own work.
-/
namespace Go.Ge

/-- the points of a list, by their places -/
def gt (c : List Pt) (j : Nat) : Pt := c.getD j (0, 0)
instance (g : Nat → Pt) (n segs i k : Nat) : Decidable (crossP g n segs i k) := by
 unfold crossP
 split <;> infer_instance
instance (g : Nat → Pt) (n segs i k : Nat) : Decidable (crossL g n segs i k) := by
 unfold crossL; infer_instance
/-- two points beside each other are equal -/
def dbl (c : List Pt) (segs : Nat) : Bool := (List.range segs).any fun j => decide (gt c j = gt c ((j + 1) % c.length))
def crs (c : List Pt) (segs : Nat) : Bool := (List.range segs).any fun i => (List.range segs).any fun k => decide (i < k) && decide (crossP (gt c) c.length segs i k)
def crsL (c : List Pt) (segs : Nat) : Bool := (List.range segs).any fun i => (List.range segs).any fun k => decide (i < k) && decide (crossL (gt c) c.length segs i k)
theorem dbl_iff {c : List Pt} {segs : Nat} : dbl c segs = true ↔ ∃ j, j < segs ∧ gt c j = gt c ((j + 1) % c.length) := by
 simp [dbl]
theorem crs_iff {c : List Pt} {segs : Nat} : crs c segs = true ↔ ∃ i k, i < k ∧ k < segs ∧ crossP (gt c) c.length segs i k := by
 simp only [crs, List.any_eq_true, List.mem_range, Bool.and_eq_true, decide_eq_true_eq]
 constructor
 ·rintro ⟨i, _, k, h1, h2, h3⟩; exact ⟨i, k, h2, h1, h3⟩
 ·rintro ⟨i, k, h1, h2, h3⟩; exact ⟨i, by omega, k, h2, h1, h3⟩
theorem crsL_iff {c : List Pt} {segs : Nat} : crsL c segs = true ↔ ∃ i k, i < k ∧ k < segs ∧ crossL (gt c) c.length segs i k := by
 simp only [crsL, List.any_eq_true, List.mem_range, Bool.and_eq_true, decide_eq_true_eq]
 constructor
 ·rintro ⟨i, _, k, h1, h2, h3⟩; exact ⟨i, k, h2, h1, h3⟩
 ·rintro ⟨i, k, h1, h2, h3⟩; exact ⟨i, by omega, k, h2, h1, h3⟩
/-- how many segments -/
def segs (c : List Pt) (ring : Bool) : Nat := if ring then c.length else c.length - 1
/-- the error of a chain, or of a ring, of right points -/
def chkN (c : List Pt) (ring : Bool) : Int :=
 if c.length < (if ring then 3 else 2) then 5 else if 400 < c.length then 4 else if dbl c (segs c ring) then 17 else if crs c (segs c ring) then 26 else 0
theorem crs_eq {c : List Pt} {ring : Bool} (h : ¬c.length < (if ring then 3 else 2)) (hd : ¬dbl c (segs c ring) = true) : crs c (segs c ring) = crsL c (segs c ring) := by
 have hn : 2 ≤ c.length := by cases ring <;> simp at h <;> omega
 have hs : segs c ring = c.length ∨ segs c ring + 1 = c.length := by cases ring <;> simp [segs] <;> omega
 have hne : ∀ j, j < segs c ring → gt c j ≠ gt c ((j + 1) % c.length) := fun j hj e => hd (dbl_iff.2 ⟨j, hj, e⟩)
 rw [Bool.eq_iff_iff, crs_iff, crsL_iff]
 constructor
 ·rintro ⟨i, k, h1, h2, h3⟩; exact ⟨i, k, h1, h2, (cross_eq hs hn h1 h2 hne).1 h3⟩
 ·rintro ⟨i, k, h1, h2, h3⟩; exact ⟨i, k, h1, h2, (cross_eq hs hn h1 h2 hne).2 h3⟩
/-- the magnitude -/
def abQ (q : Rat) : Rat := if q < 0 then -q else q
/-- is a list a chain? -/
def good (c : List Pt) : Bool := decide (chkN c false = 0)
/-- the point to be left out, of the points 1 to k -/
def pick (most : Rat) (c : List Pt) : Nat → Option (Nat × Rat)
 | 0 => none
 | k + 1 =>
   match pick most c k with
   | none => if abQ (ar (gt c k) (gt c (k + 1)) (gt c (k + 2))) ≤ most ∧ good (c.eraseIdx (k + 1)) = true then some (k + 1, abQ (ar (gt c k) (gt c (k + 1)) (gt c (k + 2)))) else none
   | some (j, y) => if abQ (ar (gt c k) (gt c (k + 1)) (gt c (k + 2))) < y ∧ good (c.eraseIdx (k + 1)) = true then some (k + 1, abQ (ar (gt c k) (gt c (k + 1)) (gt c (k + 2)))) else some (j, y)
/-- points left out, at most so many -/
def simp (most : Rat) : Nat → List Pt → List Pt
 | 0, c => c
 | f + 1, c => match pick most c (c.length - 2) with
   | none => c
   | some (i, _) => simp most f (c.eraseIdx i)
theorem pick_spec {most : Rat} {c : List Pt} : ∀ {k i : Nat} {y : Rat}, pick most c k = some (i, y) → 1 ≤ i ∧ i ≤ k ∧ y ≤ most ∧ good (c.eraseIdx i) = true
 | 0, _, _, h => by cases h
 | k + 1, i, y, h => by
   unfold pick at h
   split at h
   ·split at h
    ·rename_i hc
     cases h
     exact ⟨by omega, by omega, hc.1, hc.2⟩
    ·cases h
   ·rename_i j z hj
    obtain ⟨h1, h2, h3, h4⟩ := pick_spec hj
    split at h
    ·rename_i hc
     cases h
     exact ⟨by omega, by omega, by grind, hc.2⟩
    ·cases h
     exact ⟨h1, by omega, h3, h4⟩
end Go.Ge

/-
 PLANE GEOMETRY: where two chains meet, as a list. Own work.
-/
namespace Go.Ge

abbrev Cr := Nat × Nat × Pt
def Mt.isOver : Mt → Bool
 | .over => true
 | _ => false
def Mt.tch (i k : Nat) : Mt → List Cr
 | .touch p => [(i, k, p)]
 | _ => []
/-- the places of side i on the first k sides of the other chain -/
def rowC (M : Nat → Nat → Mt) (i : Nat) : Nat → List Cr
 | 0 => []
 | k + 1 => rowC M i k ++ (M i k).tch i k
/-- those of the first i sides -/
def outC (M : Nat → Nat → Mt) (nb : Nat) : Nat → List Cr
 | 0 => []
 | i + 1 => outC M nb i ++ rowC M i nb
def ovC (M : Nat → Nat → Mt) (na nb : Nat) : Bool := (List.range na).any fun i => (List.range nb).any fun k => (M i k).isOver
theorem ovC_iff {M : Nat → Nat → Mt} {na nb : Nat} : ovC M na nb = true ↔ ∃ i k, i < na ∧ k < nb ∧ (M i k).isOver = true := by
 simp only [ovC, List.any_eq_true, List.mem_range]
 constructor
 ·rintro ⟨i, h1, k, h2, h3⟩; exact ⟨i, k, h1, h2, h3⟩
 ·rintro ⟨i, k, h1, h2, h3⟩; exact ⟨i, h1, k, h2, h3⟩
theorem tch_len (m : Mt) (i k : Nat) : (m.tch i k).length ≤ 1 := by cases m <;> simp [Mt.tch]
theorem mem_tch {m : Mt} {i k : Nat} {x : Cr} (h : x ∈ m.tch i k) : m = .touch x.2.2 ∧ x.1 = i ∧ x.2.1 = k := by
 cases m <;> simp [Mt.tch] at h
 subst h; exact ⟨rfl, rfl, rfl⟩
theorem rowC_len (M : Nat → Nat → Mt) (i : Nat) : ∀ k, (rowC M i k).length ≤ k
 | 0 => Nat.le_refl _
 | k + 1 => by
   unfold rowC
   rw [List.length_append]
   have := rowC_len M i k
   have := tch_len (M i k) i k
   omega
theorem outC_len (M : Nat → Nat → Mt) (nb : Nat) : ∀ na, (outC M nb na).length ≤ na * nb
 | 0 => by simp [outC]
 | na + 1 => by
   unfold outC
   rw [List.length_append, Nat.add_mul]
   have := outC_len M nb na
   have := rowC_len M na nb
   omega
theorem mem_rowC {M : Nat → Nat → Mt} {i : Nat} {x : Cr} : ∀ {k : Nat}, x ∈ rowC M i k → x.2.1 < k ∧ x.1 = i ∧ M i x.2.1 = .touch x.2.2
 | 0, h => by cases h
 | k + 1, h => by
   unfold rowC at h
   rcases List.mem_append.1 h with h | h
   ·obtain ⟨h1, h2, h3⟩ := mem_rowC h
    exact ⟨by omega, h2, h3⟩
   ·obtain ⟨h1, h2, h3⟩ := mem_tch h
    exact ⟨by omega, h2, by rw [h3]; exact h1⟩
theorem mem_outC {M : Nat → Nat → Mt} {nb : Nat} {x : Cr} : ∀ {na : Nat}, x ∈ outC M nb na → x.1 < na ∧ x.2.1 < nb ∧ M x.1 x.2.1 = .touch x.2.2
 | 0, h => by cases h
 | na + 1, h => by
   unfold outC at h
   rcases List.mem_append.1 h with h | h
   ·obtain ⟨h1, h2, h3⟩ := mem_outC h
    exact ⟨by omega, h2, h3⟩
   ·obtain ⟨h1, h2, h3⟩ := mem_rowC h
    exact ⟨by omega, h1, by rw [h2]; exact h3⟩
/-- how two sides of two chains meet, by both ways -/
def mP (a b : List Pt) (i k : Nat) : Mt := meetP (gt a i) (gt a (i + 1)) (gt b k) (gt b (k + 1))
def mL (a b : List Pt) (i k : Nat) : Mt := meetL (gt a i) (gt a (i + 1)) (gt b k) (gt b (k + 1))
theorem good_parts {c : List Pt} (h : good c = true) : 2 ≤ c.length ∧ c.length ≤ 400 ∧ ¬dbl c (c.length - 1) = true ∧ ¬crs c (c.length - 1) = true := by
 unfold good chkN segs at h
 simp only [Bool.false_eq_true, if_false, decide_eq_true_eq] at h
 by_cases h1 : c.length < 2
 ·rw [if_pos h1] at h; omega
 ·rw [if_neg h1] at h
  by_cases h2 : 400 < c.length
  ·rw [if_pos h2] at h; omega
  ·rw [if_neg h2] at h
   by_cases h3 : dbl c (c.length - 1) = true
   ·rw [if_pos h3] at h; omega
   ·rw [if_neg h3] at h
    by_cases h4 : crs c (c.length - 1) = true
    ·rw [if_pos h4] at h; omega
    ·exact ⟨by omega, by omega, h3, h4⟩
theorem good_ne {c : List Pt} (h : good c = true) {j : Nat} (hj : j + 1 < c.length) : gt c j ≠ gt c (j + 1) := by
 intro e
 exact (good_parts h).2.2.1 (dbl_iff.2 ⟨j, by omega, by rw [Nat.mod_eq_of_lt hj]; exact e⟩)
theorem good_len {c : List Pt} (h : good c = true) : 2 ≤ c.length := (good_parts h).1
end Go.Ge

/-
 PLANE GEOMETRY: rings: their points are different; a ring from its least point on. Own work.
-/
namespace Go.Ge

theorem ring_parts {c : List Pt} (h : chkN c true = 0) : 3 ≤ c.length ∧ c.length ≤ 400 ∧ ¬dbl c c.length = true ∧ ¬crs c c.length = true := by
 unfold chkN segs at h
 simp only [if_true] at h
 by_cases h1 : c.length < 3
 ·rw [if_pos h1] at h; omega
 ·rw [if_neg h1] at h
  by_cases h2 : 400 < c.length
  ·rw [if_pos h2] at h; omega
  ·rw [if_neg h2] at h
   by_cases h3 : dbl c c.length = true
   ·rw [if_pos h3] at h; omega
   ·rw [if_neg h3] at h
    by_cases h4 : crs c c.length = true
    ·rw [if_pos h4] at h; omega
    ·exact ⟨by omega, by omega, h3, h4⟩
/-- a list from a place on -/
def rot (c : List Pt) (k : Nat) : List Pt := c.drop k ++ c.take k
theorem gt_eq {c : List Pt} {j : Nat} (hj : j < c.length) : c[j]? = some (gt c j) := by
 rw [List.getElem?_eq_getElem hj]; simp [gt, List.getD_eq_getElem?_getD, hj]
end Go.Ge

/-
 PLANE GEOMETRY: a ring turned, or turned round, is a ring. Own work.
-/
namespace Go.Ge

def cN (n : Nat) (p : Bool) : Nat := match n with
 | 0 => if p then 0 else 1
 | 1 => 1
 | _ => 2
theorem meetL_num (a b c d : Pt) : (meetL a b c d).num = cN (onB a b c d [a, b, c, d]).length (decide (0 ≤ ar c d a * ar c d b ∨ 0 ≤ ar a b c * ar a b d)) := by
 unfold meetL cN
 match onB a b c d [a, b, c, d] with
 | [] =>
   by_cases h : 0 ≤ ar c d a * ar c d b ∨ 0 ≤ ar a b c * ar a b d
   ·simp only [if_pos h, List.length_nil, decide_eq_true h, if_true]; rfl
   ·simp only [if_neg h, List.length_nil, decide_eq_false h, Bool.false_eq_true, if_false]; rfl
 | [x] => rfl
 | x :: y :: l => rfl
theorem onB_len {a b c d a' b' c' d' : Pt} (h : ∀ x, (x ∈ [a, b, c, d] ∧ btw a b x ∧ btw c d x) ↔ (x ∈ [a', b', c', d'] ∧ btw a' b' x ∧ btw c' d' x)) : (onB a b c d [a, b, c, d]).length = (onB a' b' c' d' [a', b', c', d']).length := by
 obtain ⟨h1, h2⟩ := onB_mem a b c d 4 [a, b, c, d] rfl
 obtain ⟨h3, h4⟩ := onB_mem a' b' c' d' 4 [a', b', c', d'] rfl
 exact ((List.perm_ext_iff_of_nodup h1 h3).2 fun x => by rw [h2, h4]; exact h x).length_eq
theorem num_symm (a b c d : Pt) : (meetL a b c d).num = (meetL c d a b).num := by
 rw [meetL_num, meetL_num, onB_len (a' := c) (b' := d) (c' := a) (d' := b) fun x => by simp only [List.mem_cons, List.not_mem_nil, or_false]; grind]
 rw [decide_eq_decide.2 (show (0 ≤ ar c d a * ar c d b ∨ 0 ≤ ar a b c * ar a b d) ↔ (0 ≤ ar a b c * ar a b d ∨ 0 ≤ ar c d a * ar c d b) from or_comm)]
def adj (n i k : Nat) : Bool := decide ((i + 1) % n = k) || decide ((k + 1) % n = i)
def nmS (c : List Pt) (i k : Nat) : Nat := (meetL (gt c i) (gt c ((i + 1) % c.length)) (gt c k) (gt c ((k + 1) % c.length))).num
theorem nmS_symm (c : List Pt) (i k : Nat) : nmS c i k = nmS c k i := num_symm ..
theorem adj_next {n i k : Nat} (hik : i < k) (hk : k < n) : next n n i k ↔ adj n i k = true := by
 unfold next adj
 simp only [Bool.or_eq_true, decide_eq_true_eq]
 rw [Nat.mod_eq_of_lt (show i + 1 < n by omega)]
 by_cases h : k + 1 = n
 ·rw [h, Nat.mod_self]
  constructor
  ·rintro (h1 | ⟨_, h1, h2⟩) <;> omega
  ·rintro (h1 | h1)
   ·exact .inl h1.symm
   ·exact .inr ⟨trivial, h1.symm, by omega⟩
 ·rw [Nat.mod_eq_of_lt (show k + 1 < n by omega)]; omega
theorem adj_symm (n i k : Nat) : adj n i k = adj n k i := by unfold adj; rw [Bool.or_comm]
theorem ring_iff {c : List Pt} : chkN c true = 0 ↔ 3 ≤ c.length ∧ c.length ≤ 400 ∧ (∀ j, j < c.length → gt c j ≠ gt c ((j + 1) % c.length)) ∧ ∀ i k, i < c.length → k < c.length → i ≠ k → nmS c i k ≤ if adj c.length i k = true then 1 else 0 := by
 constructor
 ·intro h
  obtain ⟨h1, h2, h3, h4⟩ := ring_parts h
  have hne : ∀ j, j < c.length → gt c j ≠ gt c ((j + 1) % c.length) := fun j hj e => h3 (dbl_iff.2 ⟨j, hj, e⟩)
  have key : ∀ i k, i < k → k < c.length → nmS c i k ≤ if adj c.length i k = true then 1 else 0 := fun i k hik hk => by
   refine Nat.not_lt.1 fun hlt => h4 (crs_iff.2 ⟨i, k, hik, hk, (cross_eq (.inl rfl) (by omega) hik hk hne).2 ?_⟩)
   unfold crossL
   simp only [adj_next hik hk]
   exact hlt
  refine ⟨h1, h2, hne, fun i k hi hk hn => ?_⟩
  rcases Nat.lt_or_gt_of_ne hn with h | h
  ·exact key i k h hk
  ·rw [nmS_symm, adj_symm]; exact key k i h hi
 ·rintro ⟨h1, h2, h3, h4⟩
  have hd : ¬dbl c c.length = true := fun h => by obtain ⟨j, hj, e⟩ := dbl_iff.1 h; exact h3 j hj e
  have hx : ¬crs c c.length = true := fun h => by
   obtain ⟨i, k, hik, hk, hc⟩ := crs_iff.1 h
   have hl := (cross_eq (.inl rfl) (by omega) hik hk h3).1 hc
   unfold crossL at hl
   simp only [adj_next hik hk] at hl
   have := h4 i k (by omega) hk (by omega)
   unfold nmS at this
   omega
  unfold chkN segs
  simp only [if_true]
  rw [if_neg (by omega), if_neg (by omega), if_neg hd, if_neg hx]
end Go.Ge
