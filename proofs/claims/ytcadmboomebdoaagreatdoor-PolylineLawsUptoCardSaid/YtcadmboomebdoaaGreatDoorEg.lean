/-
 OWN ROWS of pairs of strings, read as data. Own work.
-/
import Derived.Test.YtcadmboomebdoaaGreatDoorPj
import Derived.Deep.AppendLies
import Derived.Test.YtcadmboomebdoaaGreatDoorEa
set_option linter.unusedVariables false
set_option linter.unusedSimpArgs false
namespace Go.Pi
open Go Go.RowKit

section
variable {α : Type} (f g : α → List UInt8)
/-- the cells of a pair, and its data -/
def enc2 (x : α) : List Value := [.string ⟨(f x).toArray⟩, .string ⟨(g x).toArray⟩]
def dat2 (x : α) : List D := [.str (f x), .str (g x)]
def cel2 (l : List α) : List Value := l.flatMap (enc2 f g)
theorem cel2_len (l : List α) : (cel2 f g l).length = l.length * 2 := by
 induction l with
 | nil => rfl
 | cons x l ih => show (enc2 f g x ++ cel2 f g l).length = _; rw [List.length_append, ih, List.length_cons]; show 2 + _ = _; omega
theorem cel2_at : ∀ {l : List α} {k : Nat} {x : α}, l[k]? = some x → (cel2 f g l)[k * 2]? = some (.string ⟨(f x).toArray⟩) ∧ (cel2 f g l)[k * 2 + 1]? = some (.string ⟨(g x).toArray⟩)
 | y :: l, 0, x, h => by cases h; exact ⟨rfl, rfl⟩
 | y :: l, k + 1, x, h => by
   have ih := cel2_at (l := l) (k := k) (x := x) (by simpa using h)
   have e : ∀ j, (cel2 f g (y :: l))[j + 2]? = (cel2 f g l)[j]? := fun j => rfl
   rw [show (k + 1) * 2 = k * 2 + 2 by omega, show k * 2 + 2 + 1 = k * 2 + 1 + 2 by omega, e, e]
   exact ih
theorem cel2_app (l m : List α) : cel2 f g (l ++ m) = cel2 f g l ++ cel2 f g m := List.flatMap_append
theorem cel2_take (l : List α) (k : Nat) (h : k ≤ l.length) : (cel2 f g l).take (k * 2) = cel2 f g (l.take k) := by
 conv => lhs; rw [← List.take_append_drop k l, cel2_app]
 rw [List.take_left' (by rw [cel2_len, List.length_take]; omega)]
theorem cel2_drop (l : List α) (k : Nat) (h : k ≤ l.length) : (cel2 f g l).drop (k * 2) = cel2 f g (l.drop k) := by
 conv => lhs; rw [← List.take_append_drop k l, cel2_app]
 rw [List.drop_left' (by rw [cel2_len, List.length_take]; omega)]
theorem cel2_one (l : List α) : ∀ u ∈ cel2 f g l, u.oneCell' = true := by
 intro u hu
 obtain ⟨x, _, hx⟩ := List.mem_flatMap.1 hu
 simp only [enc2, List.mem_cons, List.not_mem_nil, or_false] at hx
 rcases hx with rfl | rfl <;> rfl
variable {f g}
/-- an own row read as data -/
theorem rep_own2 {W : World} {S : Nat → Nat → Prop} {base e : Nat} {v : Value} {l : List α} (h : W.ownsRow base e 2 v l.length (cel2 f g l)) (hl : ∀ y ∈ l, (f y).length ≤ maxLen ∧ (g y).length ≤ maxLen) (hS : ∀ b j, base ≤ b → b < W.heap.size → S b j) :
  Rep S W (.sl l.length (l.flatMap (dat2 f g))) v := by
 have hr : ∀ (i : Nat) (d : D) (u : Value), (l.flatMap (dat2 f g))[i]? = some d → (cel2 f g l)[i]? = some u → Rep S W d u := by
  clear h
  induction l with
  | nil => intro i d u hd; simp at hd
  | cons x l ih =>
    obtain ⟨h1, h2⟩ := hl x (List.mem_cons_self ..)
    intro i d u hd hu
    match i with
    | 0 => cases hd; cases hu; exact .str _ h1
    | 1 => cases hd; cases hu; exact .str _ h2
    | i + 2 => exact ih (fun y hy => hl y (List.mem_cons_of_mem _ hy)) i d u hd hu
 have hlen : (l.flatMap (dat2 f g)).length = l.length * 2 := by
  clear h hr hl
  induction l with
  | nil => rfl
  | cons x l ih => rw [List.flatMap_cons, List.length_append, ih, List.length_cons]; show 2 + _ = _; omega
 have h1 : ∀ d ∈ l.flatMap (dat2 f g), d.one = true := by
  intro d hd
  obtain ⟨x, _, hx⟩ := List.mem_flatMap.1 hd
  simp only [dat2, List.mem_cons, List.not_mem_nil, or_false] at hx
  rcases hx with rfl | rfl <;> rfl
 rcases h.2 with ⟨rfl, h0⟩ | ⟨b, cap, cur, rfl, hbg, hg, hn, hc, _, _⟩
 ·obtain rfl : l = [] := List.length_eq_zero_iff.1 h0
  exact .sl0 none 0 (Nat.zero_le _)
 ·refine .sl l.length (l.flatMap (dat2 f g)) b 0 cap (cel2 f g l) (by rw [hlen, cel2_len]) h1 hn hc (fun i u hu => ⟨hS b _ hbg (Array.getElem?_eq_some_iff.1 hg).1, ?_⟩) hr
  have hlt := (List.getElem?_eq_some_iff.1 hu).1
  rw [cel2_len] at hlt
  rw [Nat.zero_add, h.cellAt i hlt]; exact hu
end
section
variable {α : Type} {f g : α → List UInt8}
theorem reps_cel2 {S : Nat → Nat → Prop} {w : World} : ∀ {l : List α} {vs : List Value}, Reps S w (l.flatMap (dat2 f g)) vs → vs = cel2 f g l
 | [], vs, h => by
   have := h.1
   exact List.length_eq_zero_iff.1 this.symm
 | x :: l, vs, h => by
   obtain ⟨v1, r1, rfl, h1, t1⟩ := Reps.uncons (ds := .str (g x) :: l.flatMap (dat2 f g)) (show Reps S w (.str (f x) :: .str (g x) :: l.flatMap (dat2 f g)) vs from h)
   obtain ⟨v2, r2, rfl, h2, t2⟩ := t1.uncons
   have e1 := h1.str_inv.1
   have e2 := h2.str_inv.1
   rw [reps_cel2 t2]
   subst e1; subst e2
   rfl
/-- an own slice that a contract returns is an own row -/
theorem own_of_res {P : Program} {S : Nat → Nat → Prop} {w w' : World} {e : TypeId} {l : List α} {v : Value} (hc : P.cellsOf e = 2) (h : Res P S w w' (.own true e l.length (l.flatMap (dat2 f g))) v) : w'.ownsRow w.heap.size e 2 v l.length (cel2 f g l) := by
 obtain ⟨ob, h1, h2⟩ := h
 simp only [OwnR] at h2
 refine ⟨cel2_len f g l, ?_⟩
 rcases h2 with ⟨_, rfl, h3, _⟩ | ⟨b, cap, arr, rfl, rfl, h3, h4, h5, h6, h7, h8, _⟩
 ·exact .inl ⟨rfl, h3⟩
 ·rw [hc] at h6 h8
  exact .inr ⟨b, cap, arr, rfl, (h1 b rfl).1, h3, h4, h5, h6, reps_cel2 h8⟩
end
/-- a longer row in the same block -/
theorem own_more {W : World} {base e sz b m n cap : Nat} {xs : List Value} (h : W.ownsRow base e sz (.slice (some ⟨b, 0, none⟩) m cap) m xs) (h1 : m ≤ n) (h2 : n ≤ cap) : ∃ ys, W.ownsRow base e sz (.slice (some ⟨b, 0, none⟩) n cap) n (xs ++ ys) := by
 rcases h.2 with ⟨h', _⟩ | ⟨b', cap', cur, h', hbg, hg, hmc, hcm, hcs, htk⟩
 ·simp at h'
 ·simp only [Value.slice.injEq, Option.some.injEq, Addr.mk.injEq, and_true, true_and] at h'
  obtain ⟨rfl, rfl⟩ := h'
  have e1 : cur.toList.take (n * sz) = xs ++ (cur.toList.take (n * sz)).drop (m * sz) := by
   conv => lhs; rw [← List.take_append_drop (m * sz) (cur.toList.take (n * sz))]
   rw [List.take_take, Nat.min_eq_left (Nat.mul_le_mul_right _ h1), htk]
  refine ⟨(cur.toList.take (n * sz)).drop (m * sz), ?_, .inr ⟨b, cap, cur, rfl, hbg, hg, h2, hcm, hcs, e1⟩⟩
  rw [← e1, List.length_take, Array.length_toList, hcs, Nat.min_eq_left (Nat.mul_le_mul_right _ h2)]
/-- a shorter row in the same block -/
theorem own_less {W : World} {base e sz b m n cap : Nat} {xs : List Value} (h : W.ownsRow base e sz (.slice (some ⟨b, 0, none⟩) n cap) n xs) (h1 : m ≤ n) : W.ownsRow base e sz (.slice (some ⟨b, 0, none⟩) m cap) m (xs.take (m * sz)) := by
 have hx := h.1
 rcases h.2 with ⟨h', _⟩ | ⟨b', cap', cur, h', hbg, hg, hmc, hcm, hcs, htk⟩
 ·simp at h'
 ·simp only [Value.slice.injEq, Option.some.injEq, Addr.mk.injEq, and_true, true_and] at h'
  obtain ⟨rfl, rfl⟩ := h'
  refine ⟨by rw [List.length_take, hx, Nat.min_eq_left (Nat.mul_le_mul_right _ h1)], .inr ⟨b, cap, cur, rfl, hbg, hg, by omega, hcm, hcs, ?_⟩⟩
  rw [← htk, List.take_take, Nat.min_eq_left (Nat.mul_le_mul_right _ h1)]
end Go.Pi
namespace Go.Pi
open Go Go.RowKit
variable {P : Program}
/-- an append that fits, at a step of a region whose order is open -/
theorem step_append_fits (w : World) {ops : Array Oper} {o : Oper} {a : Act} {K : Act → World → Prop} {Q : Exit → Act → World → Prop} {E : Prop} (hgd : o.guard = none) (s x : Operand) (t : TypeId)
  (ho : o.op = .call { callee := .builtin .append, args := #[s, x], argTypes := #[t, t] })
  (base : Nat) (e : TypeId) (i : TypeInfo) (size : Nat) (ht : P.underlying t = some (.slice e)) (hi : P.info? e = some i) (hsize : i.size = size)
  (g n cap : Nat) (xs : List Value) (hs : a.eval s = .slice (some ⟨g, 0, none⟩) n cap) (hown : w.ownsRow base e size (.slice (some ⟨g, 0, none⟩) n cap) n xs)
  (ad : Addr) (m c : Nat) (news : List Value) (hx : a.eval x = .slice (some ad) m c) (hl : news.length = m * size) (hnews : ∀ j u, news[j]? = some u → w.cell? (ad.add j) = some u) (h1 : ∀ u ∈ news, u.oneCell' = true)
  (hroom : n + m ≤ cap)
  (h : ∀ w', w'.ownsRow base e size (.slice (some ⟨g, 0, none⟩) (n + m) cap) (n + m) (xs ++ news) → w.grownBy w' (some g) → K (a.put o.dst (.slice (some ⟨g, 0, none⟩) (n + m) cap)) w') :
  if Region.wanted o (yielded ops a.tmps) = true then Oper.wp P o a w K Q else E := by
 have hw : Region.wanted o (yielded ops a.tmps) = true := by simp [Region.wanted, hgd]
 rw [if_pos hw]
 obtain ⟨w', hr, h2, h3⟩ := run_append_fits (P := P) w base t o.type e i size ht hi hsize g n cap xs hown ad m c news hl hnews h1 hroom
 unfold Oper.wp execOp
 simp only [ho, resolve, invoke, builtin, Sem.run_bind, Sem.run_pure, Result.andThen_ok, List.map_toArray, List.map_cons, List.map_nil, hs, hx, hr]
 exact h w' h2 h3
/-- clear(s[i:]) of an own row -/
theorem clear_row2 {w : World} {t e base n cap g i : Nat} {xs : List Value} {z : Value} (ht : P.underlying t = some (.slice e)) (hv : ∀ w, (zeroValue e).run P w = .ok z w) (hz : z.cells.size = 2) (hz1 : ∀ u ∈ z.cells, u.oneCell' = true)
  (h : w.ownsRow base e 2 (.slice (some ⟨g, 0, none⟩) n cap) n xs) (hi : i < n) :
  ∃ w', (∀ ty c, (Builtin.clear_ #[t] ty #[.slice (some ⟨g, i * 2, none⟩) (n - i) c]).run P w = .ok (.tuple #[]) w') ∧ w'.ownsRow base e 2 (.slice (some ⟨g, 0, none⟩) i cap) i (xs.take (i * 2)) ∧ w.grownBy w' (some g) := by
 have hxl := h.1
 rcases h.2 with ⟨h1, _⟩ | ⟨g', cap', cur, h1, hbg, hg, hnc, hcm, hcs, htk⟩
 ·simp at h1
 ·simp only [Value.slice.injEq, Option.some.injEq, Addr.mk.injEq, and_true, true_and] at h1
  obtain ⟨rfl, rfl⟩ := h1
  have hzs : (Builtin.zeroCells z.cells (n - i)).size = (n - i) * 2 := by rw [size_zeroCells, hz]
  have hfit : i * 2 + 0 + (Builtin.zeroCells z.cells (n - i)).toList.length ≤ cur.size := by rw [Array.length_toList, hzs, hcs]; omega
  have hone : ∀ u ∈ (Builtin.zeroCells z.cells (n - i)).toList, u.oneCell' = true := fun u hu => by
   obtain ⟨q, hq⟩ := List.getElem?_of_mem hu
   simp [Builtin.zeroCells, Array.getElem?_ofFn] at hq
   obtain ⟨hq1, _, rfl⟩ := hq
   have hlt : hq1 % z.cells.size < z.cells.size := Nat.mod_lt _ (by omega)
   rw [getElem!_pos z.cells _ hlt]
   exact hz1 _ (Array.getElem_mem hlt)
  have hex := run_storeCells_at P g (i * 2) e (Builtin.zeroCells z.cells (n - i)).toList 0 cur w hg hfit hone
  simp only [Nat.add_zero] at hex
  generalize hnew : (cur.toList.take (i * 2) ++ (Builtin.zeroCells z.cells (n - i)).toList ++ cur.toList.drop (i * 2 + (Builtin.zeroCells z.cells (n - i)).toList.length)).toArray = arr at hex
  have hnl : arr.toList = cur.toList.take (i * 2) ++ ((Builtin.zeroCells z.cells (n - i)).toList ++ cur.toList.drop (i * 2 + (Builtin.zeroCells z.cells (n - i)).toList.length)) := by rw [← hnew]; simp
  have e1 : (cur.toList.take (i * 2)).length = i * 2 := by rw [List.length_take, Array.length_toList]; omega
  refine ⟨w.setRow g arr, fun ty c => ?_, ⟨?_, .inr ⟨g, cap, arr, rfl, hbg, setRow_heap w g cur arr e (0, 0) hg, by omega, hcm, ?_, ?_⟩⟩, ⟨rfl, rfl, rfl, by simp, fun k _ hk => setRow_other w g k arr (fun e => hk (by simp [e]))⟩⟩
  ·obtain ⟨q, hq⟩ : ∃ q, n - i = q + 1 := ⟨n - i - 1, by omega⟩
   rw [hq] at hex ⊢
   simp [Builtin.clear_, run_underlying ht, hv, hex]
  ·rw [List.length_take]; omega
  ·have := congrArg List.length hnl
   rw [List.length_append, List.length_append, e1, List.length_drop, Array.length_toList, Array.length_toList, Array.length_toList] at this
   simp only [Array.length_toList] at hfit
   omega
  ·rw [hnl, List.take_left' e1, ← htk, List.take_take, Nat.min_eq_left (by omega)]
end Go.Pi
namespace Go.Pi
open Go Go.RowKit
theorem gr_trans {a b c : World} {r : Option Nat} (h : a.grownBy b r) (h2 : b.grownBy c r) : a.grownBy c r :=
 ⟨h2.os.trans h.os, h2.tape.trans h.tape, h2.output.trans h.output, Nat.le_trans h.size h2.size, fun k hk hn => (h2.block k (Nat.lt_of_lt_of_le hk h.size) hn).trans (h.block k hk hn)⟩
theorem gr_below {a b : World} {r : Option Nat} (h : Below a.heap.size a b) : a.grownBy b r := ⟨h.os, h.tape, h.output, h.size, fun k hk _ => h.block k hk⟩
theorem gr_self (a : World) {r : Option Nat} : a.grownBy a r := ⟨rfl, rfl, rfl, Nat.le_refl _, fun _ _ _ => rfl⟩
theorem gr_drew {a b : World} {r : Option Nat} (h : a.grownBy b r) : a.grownBy b.drew r := ⟨h.os, h.tape, h.output, h.size, h.block⟩
end Go.Pi
namespace Go.Pi
open Go Go.RowKit
theorem own_base {w : World} {base base' e sz : Nat} {v : Value} {n : Nat} {xs : List Value} (h : w.ownsRow base e sz v n xs) (hle : base' ≤ base) : w.ownsRow base' e sz v n xs := by
 refine ⟨h.1, ?_⟩
 rcases h.2 with h1 | ⟨g, cap, cur, h1, h2, h3⟩
 ·exact .inl h1
 ·exact .inr ⟨g, cap, cur, h1, Nat.le_trans hle h2, h3⟩
/-- a pair of strings as an argument -/
theorem rep_pair (S : Nat → Nat → Prop) (W : World) (a b : List UInt8) (h1 : a.length ≤ maxLen) (h2 : b.length ≤ maxLen) : Rep S W (.agg [.str a, .str b]) (.agg #[.string ⟨a.toArray⟩, .string ⟨b.toArray⟩]) := by
 refine Rep.agg [.str a, .str b] [.string ⟨a.toArray⟩, .string ⟨b.toArray⟩] rfl (by simp [D.one]) fun i d v hd hv => ?_
 match i with
 | 0 => cases hd; cases hv; exact .str _ h1
 | 1 => cases hd; cases hv; exact .str _ h2
 | i + 2 => simp at hd
end Go.Pi

/-
 PLANE GEOMETRY over the rational numbers: segments. Own work.
-/
namespace Go.Ge

abbrev Pt := Rat × Rat
/-- the doubled area of a triangle -/
def ar (a b c : Pt) : Rat := (b.1 - a.1) * (c.2 - a.2) - (b.2 - a.2) * (c.1 - a.1)
/-- the order of points -/
def le (a b : Pt) : Prop := a.1 < b.1 ∨ (a.1 = b.1 ∧ a.2 ≤ b.2)
theorem le_refl (a : Pt) : le a a := .inr ⟨rfl, Rat.le_refl⟩
theorem le_total (a b : Pt) : le a b ∨ le b a := by unfold le; grind
theorem le_trans {a b c : Pt} (h : le a b) (k : le b c) : le a c := by unfold le at *; grind
theorem le_antisymm {a b : Pt} (h : le a b) (k : le b a) : a = b := by
 have h1 : a.1 = b.1 := by unfold le at *; grind
 have h2 : a.2 = b.2 := by unfold le at *; grind
 exact Prod.ext h1 h2
/-- a place on a segment -/
def btw (a b p : Pt) : Prop := ar a b p = 0 ∧ (le a p ∧ le p b ∨ le b p ∧ le p a)
def onS (a b p : Pt) : Prop := ∃ t : Rat, 0 ≤ t ∧ t ≤ 1 ∧ p.1 = a.1 + t * (b.1 - a.1) ∧ p.2 = a.2 + t * (b.2 - a.2)
theorem onS_symm {a b p : Pt} (h : onS a b p) : onS b a p := by
 obtain ⟨t, h1, h2, h3, h4⟩ := h
 exact ⟨1 - t, by grind, by grind, by grind, by grind⟩
theorem btw_symm {a b p : Pt} (h : btw a b p) : btw b a p := ⟨by have := h.1; unfold ar at *; grind, h.2.symm⟩
theorem onS_of_le {a b p : Pt} (h : ar a b p = 0) (h1 : le a p) (h2 : le p b) : onS a b p := by
 by_cases hx : a.1 = b.1
 ·by_cases hy : a.2 = b.2
  ·refine ⟨0, by decide, by decide, ?_, ?_⟩ <;> unfold le at * <;> grind
  ·have hy' : a.2 < b.2 := by unfold le at *; grind
   have hne : b.2 - a.2 ≠ 0 := by grind
   have e : (p.2 - a.2) / (b.2 - a.2) * (b.2 - a.2) = p.2 - a.2 := by grind
   have p1 : a.2 ≤ p.2 := by unfold le at *; grind
   have p2 : p.2 ≤ b.2 := by unfold le at *; grind
   generalize (p.2 - a.2) / (b.2 - a.2) = t at *
   refine ⟨t, ?_, ?_, by unfold le at *; grind, by grind⟩
   ·refine Rat.not_lt.1 fun h' => ?_
    have := Rat.mul_pos (show 0 < -t by grind) (show 0 < b.2 - a.2 by grind)
    grind
   ·refine Rat.not_lt.1 fun h' => ?_
    have := Rat.mul_pos (show 0 < t - 1 by grind) (show 0 < b.2 - a.2 by grind)
    grind
 ·have hx' : a.1 < b.1 := by unfold le at *; grind
  have hne : b.1 - a.1 ≠ 0 := by grind
  have e : (p.1 - a.1) / (b.1 - a.1) * (b.1 - a.1) = p.1 - a.1 := by grind
  have p1 : a.1 ≤ p.1 := by unfold le at *; grind
  have p2 : p.1 ≤ b.1 := by unfold le at *; grind
  generalize (p.1 - a.1) / (b.1 - a.1) = t at *
  refine ⟨t, ?_, ?_, by grind, ?_⟩
  ·refine Rat.not_lt.1 fun h' => ?_
   have := Rat.mul_pos (show 0 < -t by grind) (show 0 < b.1 - a.1 by grind)
   grind
  ·refine Rat.not_lt.1 fun h' => ?_
   have := Rat.mul_pos (show 0 < t - 1 by grind) (show 0 < b.1 - a.1 by grind)
   grind
  ·unfold ar at h
   have : (b.1 - a.1) * (p.2 - a.2 - t * (b.2 - a.2)) = 0 := by grind
   have := (Rat.mul_eq_zero.1 this).resolve_left hne
   grind
theorem btw_onS {a b p : Pt} : btw a b p ↔ onS a b p := by
 constructor
 ·rintro ⟨h, ⟨h1, h2⟩ | ⟨h1, h2⟩⟩
  ·exact onS_of_le h h1 h2
  ·exact onS_symm (onS_of_le (by unfold ar at *; grind) h1 h2)
 ·intro h
  have key : ∀ {a b : Pt}, onS a b p → le a b → le a p ∧ le p b := by
   intro a b ⟨t, t0, t1, e1, e2⟩ hab
   by_cases hx : a.1 = b.1
   ·have hy : a.2 ≤ b.2 := by unfold le at hab; grind
    have m1 := Rat.mul_nonneg t0 (show 0 ≤ b.2 - a.2 by grind)
    have m2 := Rat.mul_nonneg (show 0 ≤ 1 - t by grind) (show 0 ≤ b.2 - a.2 by grind)
    exact ⟨.inr ⟨by grind, by grind⟩, .inr ⟨by grind, by grind⟩⟩
   ·have hx' : a.1 < b.1 := by unfold le at hab; grind
    have m1 := Rat.mul_nonneg t0 (show 0 ≤ b.1 - a.1 by grind)
    have m2 := Rat.mul_nonneg (show 0 ≤ 1 - t by grind) (show 0 ≤ b.1 - a.1 by grind)
    constructor
    ·by_cases h0 : t = 0
     ·subst h0; exact .inr ⟨by grind, by grind⟩
     ·left
      have := Rat.mul_pos (show 0 < t by grind) (show 0 < b.1 - a.1 by grind)
      grind
    ·by_cases h0 : t = 1
     ·subst h0; exact .inr ⟨by grind, by grind⟩
     ·left
      have := Rat.mul_pos (show 0 < 1 - t by grind) (show 0 < b.1 - a.1 by grind)
      grind
  refine ⟨by obtain ⟨t, _, _, e1, e2⟩ := h; unfold ar; rw [e1, e2]; grind, ?_⟩
  rcases le_total a b with hab | hab
  ·exact .inl (key h hab)
  ·exact .inr (key (onS_symm h) hab)
theorem onS_left (a b : Pt) : onS a b a := ⟨0, by decide, by decide, by grind, by grind⟩
theorem onS_right (a b : Pt) : onS a b b := ⟨1, by decide, by decide, by grind, by grind⟩
end Go.Ge

/-
 PLANE GEOMETRY: how two segments meet: two ways to find it. Own work.
-/
namespace Go.Ge

instance (a b : Pt) : Decidable (le a b) := inferInstanceAs (Decidable (a.1 < b.1 ∨ (a.1 = b.1 ∧ a.2 ≤ b.2)))
instance (a b p : Pt) : Decidable (btw a b p) := inferInstanceAs (Decidable (ar a b p = 0 ∧ (le a p ∧ le p b ∨ le b p ∧ le p a)))
/-- how two segments meet -/
inductive Mt where
 | apart
 | touch (p : Pt)
 | over
def mn (a b : Pt) : Pt := if le a b then a else b
def mx (a b : Pt) : Pt := if le a b then b else a
theorem mn_cases (a b : Pt) : (mn a b = a ∧ le a b) ∨ (mn a b = b ∧ le b a) := by
 unfold mn
 split
 ·rename_i h; exact .inl ⟨rfl, h⟩
 ·rename_i h; exact .inr ⟨rfl, (le_total a b).resolve_left h⟩
theorem mx_cases (a b : Pt) : (mx a b = b ∧ le a b) ∨ (mx a b = a ∧ le b a) := by
 unfold mx
 split
 ·rename_i h; exact .inl ⟨rfl, h⟩
 ·rename_i h; exact .inr ⟨rfl, (le_total a b).resolve_left h⟩
/-- the program's, on one line -/
def colP (a b c d : Pt) : Mt :=
 let low := mx (mn a b) (mn c d)
 let high := mn (mx a b) (mx c d)
 if low = high then .touch low else if le low high then .over else .apart
/-- the place at a share of the way -/
def atK (c d : Pt) (p q : Rat) : Pt := (c.1 + p / (p - q) * (d.1 - c.1), c.2 + p / (p - q) * (d.2 - c.2))
/-- the program's -/
def meetP (a b c d : Pt) : Mt :=
 if ar a b c = 0 ∧ ar a b d = 0 then colP a b c d
 else if 0 < ar a b c * ar a b d ∨ 0 < ar c d a * ar c d b then .apart
 else .touch (atK c d (ar a b c) (ar a b d))
/-- the law's: the ends that both have -/
def onB (a b c d : Pt) (l : List Pt) : List Pt := l.foldl (fun o x => if btw a b x ∧ btw c d x then (if x ∈ o then o else o ++ [x]) else o) []
def meetL (a b c d : Pt) : Mt :=
 match onB a b c d [a, b, c, d] with
 | [x] => .touch x
 | _ :: _ :: _ => .over
 | [] => if 0 ≤ ar c d a * ar c d b ∨ 0 ≤ ar a b c * ar a b d then .apart else .touch (atK a b (ar c d a) (ar c d b))
theorem onB_mem (a b c d : Pt) : ∀ (n : Nat) (l : List Pt), l.length = n → (onB a b c d l).Nodup ∧ ∀ x, x ∈ onB a b c d l ↔ x ∈ l ∧ btw a b x ∧ btw c d x
 | 0, l, hl => by
   obtain rfl : l = [] := List.length_eq_zero_iff.1 hl
   exact ⟨.nil, fun x => by simp [onB]⟩
 | n + 1, l, hl => by
   obtain ⟨l', y, rfl⟩ : ∃ l' x, l = l' ++ [x] := ⟨l.dropLast, l.getLast (by intro e; rw [e] at hl; simp at hl), (List.dropLast_concat_getLast _).symm⟩
   obtain ⟨h1, h2⟩ := onB_mem a b c d n l' (by simpa using hl)
   have e : onB a b c d (l' ++ [y]) = if btw a b y ∧ btw c d y then (if y ∈ onB a b c d l' then onB a b c d l' else onB a b c d l' ++ [y]) else onB a b c d l' := by
    show List.foldl _ _ _ = _
    rw [List.foldl_append]; rfl
   rw [e]
   by_cases hc : btw a b y ∧ btw c d y
   ·rw [if_pos hc]
    by_cases hm : y ∈ onB a b c d l'
    ·rw [if_pos hm]
     refine ⟨h1, fun x => ?_⟩
     rw [h2]
     constructor
     ·rintro ⟨p, q⟩; exact ⟨List.mem_append_left _ p, q⟩
     ·rintro ⟨p, q⟩
      rcases List.mem_append.1 p with p | p
      ·exact ⟨p, q⟩
      ·rw [List.mem_singleton.1 p]; exact (h2 y).1 hm
    ·rw [if_neg hm]
     refine ⟨?_, fun x => ?_⟩
     ·rw [List.nodup_append]
      exact ⟨h1, by simp, fun u hu v hv e => by rw [List.mem_singleton.1 hv] at e; rw [e] at hu; exact hm hu⟩
     ·rw [List.mem_append, List.mem_append, h2, List.mem_singleton]
      constructor
      ·rintro (⟨p, q⟩ | rfl)
       ·exact ⟨.inl p, q⟩
       ·exact ⟨.inr rfl, hc⟩
      ·rintro ⟨p | rfl, q⟩
       ·exact .inl ⟨p, q⟩
       ·exact .inr rfl
   ·rw [if_neg hc]
    refine ⟨h1, fun x => ?_⟩
    rw [h2, List.mem_append, List.mem_singleton]
    constructor
    ·rintro ⟨p, q⟩; exact ⟨.inl p, q⟩
    ·rintro ⟨p | rfl, q⟩
     ·exact ⟨p, q⟩
     ·exact absurd q hc
/-- from the ends that both have to the law's answer -/
theorem meetL_none {a b c d : Pt} (h : ∀ x ∈ [a, b, c, d], ¬(btw a b x ∧ btw c d x)) : meetL a b c d = if 0 ≤ ar c d a * ar c d b ∨ 0 ≤ ar a b c * ar a b d then .apart else .touch (atK a b (ar c d a) (ar c d b)) := by
 obtain ⟨_, h2⟩ := onB_mem a b c d 4 [a, b, c, d] rfl
 have e : onB a b c d [a, b, c, d] = [] := List.eq_nil_iff_forall_not_mem.2 fun x hx => h x ((h2 x).1 hx).1 ((h2 x).1 hx).2
 unfold meetL
 rw [e]
theorem meetL_one {a b c d z : Pt} (hz : z ∈ [a, b, c, d]) (hc : btw a b z ∧ btw c d z) (h : ∀ x ∈ [a, b, c, d], btw a b x ∧ btw c d x → x = z) : meetL a b c d = .touch z := by
 obtain ⟨h1, h2⟩ := onB_mem a b c d 4 [a, b, c, d] rfl
 have hm := (h2 z).2 ⟨hz, hc⟩
 have hall : ∀ x ∈ onB a b c d [a, b, c, d], x = z := fun x hx => h x ((h2 x).1 hx).1 ((h2 x).1 hx).2
 unfold meetL
 generalize onB a b c d [a, b, c, d] = l at *
 match l with
 | [] => cases hm
 | [x] => rw [hall x (List.mem_cons_self ..)]
 | x :: y :: l =>
   have e1 := hall x (by simp)
   have e2 := hall y (by simp)
   obtain ⟨h3, _⟩ := List.nodup_cons.1 h1
   exact absurd (by rw [e1, ← e2]; exact List.mem_cons_self ..) h3
theorem meetL_two {a b c d z w : Pt} (hz : z ∈ [a, b, c, d]) (hc : btw a b z ∧ btw c d z) (hw : w ∈ [a, b, c, d]) (hc' : btw a b w ∧ btw c d w) (hne : z ≠ w) : meetL a b c d = .over := by
 obtain ⟨h1, h2⟩ := onB_mem a b c d 4 [a, b, c, d] rfl
 have hm := (h2 z).2 ⟨hz, hc⟩
 have hm' := (h2 w).2 ⟨hw, hc'⟩
 unfold meetL
 generalize onB a b c d [a, b, c, d] = l at *
 match l with
 | [] => cases hm
 | [x] => exact absurd ((List.mem_singleton.1 hm).trans (List.mem_singleton.1 hm').symm) hne
 | x :: y :: l => rfl
theorem ar_line {a b c d : Pt} {t : Rat} : ar a b (c.1 + t * (d.1 - c.1), c.2 + t * (d.2 - c.2)) = (1 - t) * ar a b c + t * ar a b d := by unfold ar; grind
theorem rat_sgn {p q : Rat} (h : ¬0 < p * q) (hn : ¬(p = 0 ∧ q = 0)) : p - q ≠ 0 ∧ 0 ≤ p / (p - q) ∧ p / (p - q) ≤ 1 := by
 have hne : p - q ≠ 0 := fun e => by
  have : p = q := by grind
  subst this
  rcases Rat.le_total (a := 0) (b := p) with h' | h'
  ·exact h (Rat.mul_pos (by grind) (by grind))
  ·have := Rat.mul_pos (show 0 < -p by grind) (show 0 < -p by grind)
   grind
 have e : p / (p - q) * (p - q) = p := by grind
 generalize p / (p - q) = t at *
 refine ⟨hne, ?_, ?_⟩
 ·refine Rat.not_lt.1 fun h' => ?_
  have h1 := Rat.mul_pos (show 0 < -t by grind) (show 0 < -t by grind)
  have h2 : 0 < (p - q) * (p - q) := by
   rcases Rat.le_total (a := 0) (b := p - q) with h3 | h3
   ·exact Rat.mul_pos (by grind) (by grind)
   ·have := Rat.mul_pos (show 0 < -(p - q) by grind) (show 0 < -(p - q) by grind)
    grind
  -- q = p - (p - q) = (t - 1) (p - q), p q = t (t - 1) (p - q)^2 > 0
  have h3 := Rat.mul_pos (show 0 < -t by grind) h2
  have h4 := Rat.mul_pos h1 h2
  have h5 : p * q = t * (t - 1) * ((p - q) * (p - q)) := by grind
  rw [h5] at h
  grind
 ·refine Rat.not_lt.1 fun h' => ?_
  have h2 : 0 < (p - q) * (p - q) := by
   rcases Rat.le_total (a := 0) (b := p - q) with h3 | h3
   ·exact Rat.mul_pos (by grind) (by grind)
   ·have := Rat.mul_pos (show 0 < -(p - q) by grind) (show 0 < -(p - q) by grind)
    grind
  have h4 := Rat.mul_pos (Rat.mul_pos (show 0 < t by grind) (show 0 < t - 1 by grind)) h2
  have h5 : p * q = t * (t - 1) * ((p - q) * (p - q)) := by grind
  rw [h5] at h
  grind
theorem btw_col {a b x : Pt} (h : ar a b x = 0) : btw a b x ↔ le (mn a b) x ∧ le x (mx a b) := by
 unfold btw
 rcases mn_cases a b with ⟨e1, h1⟩ | ⟨e1, h1⟩
 ·rcases mx_cases a b with ⟨e2, h2⟩ | ⟨e2, h2⟩
  ·rw [e1, e2]
   refine ⟨fun ⟨_, k⟩ => k.elim id fun ⟨k1, k2⟩ => ⟨le_trans h1 k1, le_trans k2 h1⟩, fun k => ⟨h, .inl k⟩⟩
  ·have e := le_antisymm h1 h2
   subst e
   rw [e1, e2]
   exact ⟨fun ⟨_, k⟩ => k.elim id id, fun k => ⟨h, .inl k⟩⟩
 ·rcases mx_cases a b with ⟨e2, h2⟩ | ⟨e2, h2⟩
  ·have e := le_antisymm h1 h2
   subst e
   rw [e1, e2]
   exact ⟨fun ⟨_, k⟩ => k.elim id id, fun k => ⟨h, .inl k⟩⟩
  ·rw [e1, e2]
   refine ⟨fun ⟨_, k⟩ => k.elim (fun ⟨k1, k2⟩ => ⟨le_trans h1 k1, le_trans k2 h1⟩) id, fun k => ⟨h, .inr k⟩⟩
/-- both ways find the same -/
theorem meet_eq {a b c d : Pt} (hab : a ≠ b) (hcd : c ≠ d) : meetP a b c d = meetL a b c d := by
 unfold meetP
 by_cases h0 : ar a b c = 0 ∧ ar a b d = 0
 ·rw [if_pos h0]
  obtain ⟨p0, q0⟩ := h0
  -- all four on both lines
  have hne : a.1 ≠ b.1 ∨ a.2 ≠ b.2 := by
   by_cases h : a.1 = b.1
   ·exact .inr fun h2 => hab (Prod.ext h h2)
   ·exact .inl h
  have u0 : ar c d a = 0 := by
   unfold ar at *
   rcases hne with h | h
   ·have : (b.1 - a.1) * ((d.1 - c.1) * (a.2 - c.2) - (d.2 - c.2) * (a.1 - c.1)) = 0 := by grind
    exact (Rat.mul_eq_zero.1 this).resolve_left (by grind)
   ·have : (b.2 - a.2) * ((d.1 - c.1) * (a.2 - c.2) - (d.2 - c.2) * (a.1 - c.1)) = 0 := by grind
    exact (Rat.mul_eq_zero.1 this).resolve_left (by grind)
  have v0 : ar c d b = 0 := by
   have : ar c d a - ar c d b = -(ar a b c - ar a b d) := by unfold ar; grind
   grind
  have hA : ∀ x ∈ [a, b, c, d], ar a b x = 0 ∧ ar c d x = 0 := by
   intro x hx
   simp only [List.mem_cons, List.not_mem_nil, or_false] at hx
   rcases hx with rfl | rfl | rfl | rfl
   ·exact ⟨by unfold ar; grind, u0⟩
   ·exact ⟨by unfold ar; grind, v0⟩
   ·exact ⟨p0, by unfold ar; grind⟩
   ·exact ⟨q0, by unfold ar; grind⟩
  have hC : ∀ x ∈ [a, b, c, d], (btw a b x ∧ btw c d x ↔ le (mx (mn a b) (mn c d)) x ∧ le x (mn (mx a b) (mx c d))) := by
   intro x hx
   rw [btw_col (hA x hx).1, btw_col (hA x hx).2]
   constructor
   ·rintro ⟨⟨k1, k2⟩, k3, k4⟩
    constructor
    ·rcases mx_cases (mn a b) (mn c d) with ⟨e, _⟩ | ⟨e, _⟩ <;> rw [e] <;> assumption
    ·rcases mn_cases (mx a b) (mx c d) with ⟨e, _⟩ | ⟨e, _⟩ <;> rw [e] <;> assumption
   ·rintro ⟨k1, k2⟩
    constructor
    ·constructor
     ·rcases mx_cases (mn a b) (mn c d) with ⟨e, k⟩ | ⟨e, k⟩ <;> rw [e] at k1
      ·exact le_trans k k1
      ·exact k1
     ·rcases mn_cases (mx a b) (mx c d) with ⟨e, k⟩ | ⟨e, k⟩ <;> rw [e] at k2
      ·exact k2
      ·exact le_trans k2 k
    ·constructor
     ·rcases mx_cases (mn a b) (mn c d) with ⟨e, k⟩ | ⟨e, k⟩ <;> rw [e] at k1
      ·exact k1
      ·exact le_trans k k1
     ·rcases mn_cases (mx a b) (mx c d) with ⟨e, k⟩ | ⟨e, k⟩ <;> rw [e] at k2
      ·exact le_trans k2 k
      ·exact k2
  have mL : mx (mn a b) (mn c d) ∈ [a, b, c, d] := by
   rcases mx_cases (mn a b) (mn c d) with ⟨e, _⟩ | ⟨e, _⟩ <;> rw [e]
   ·rcases mn_cases c d with ⟨e, _⟩ | ⟨e, _⟩ <;> rw [e] <;> simp
   ·rcases mn_cases a b with ⟨e, _⟩ | ⟨e, _⟩ <;> rw [e] <;> simp
  have mH : mn (mx a b) (mx c d) ∈ [a, b, c, d] := by
   rcases mn_cases (mx a b) (mx c d) with ⟨e, _⟩ | ⟨e, _⟩ <;> rw [e]
   ·rcases mx_cases a b with ⟨e, _⟩ | ⟨e, _⟩ <;> rw [e] <;> simp
   ·rcases mx_cases c d with ⟨e, _⟩ | ⟨e, _⟩ <;> rw [e] <;> simp
  unfold colP
  generalize mx (mn a b) (mn c d) = lo at *
  generalize mn (mx a b) (mx c d) = hi at *
  dsimp only
  by_cases he : lo = hi
  ·rw [if_pos he]
   subst he
   exact (meetL_one mL ((hC lo mL).2 ⟨le_refl _, le_refl _⟩) fun x hx hb => (le_antisymm ((hC x hx).1 hb).1 ((hC x hx).1 hb).2).symm).symm
  ·rw [if_neg he]
   by_cases hl : le lo hi
   ·rw [if_pos hl]
    exact (meetL_two mL ((hC lo mL).2 ⟨le_refl _, hl⟩) mH ((hC hi mH).2 ⟨hl, le_refl _⟩) he).symm
   ·rw [if_neg hl, meetL_none fun x hx hb => hl (le_trans ((hC x hx).1 hb).1 ((hC x hx).1 hb).2), u0, Rat.zero_mul, if_pos (.inl Rat.le_refl)]
 ·rw [if_neg h0]
  have side : ∀ {a b c d x : Pt}, 0 < ar a b c * ar a b d → btw c d x → ar a b x ≠ 0 := by
   intro a b c d x hp hb he
   obtain ⟨t, t0, t1, e1, e2⟩ := btw_onS.1 hb
   have hx : x = (c.1 + t * (d.1 - c.1), c.2 + t * (d.2 - c.2)) := Prod.ext e1 e2
   rw [hx, ar_line] at he
   generalize ar a b c = p at *
   generalize ar a b d = q at *
   -- multiply by p
   have k1 : (1 - t) * (p * p) + t * (p * q) = 0 := by grind
   have hpp : 0 < p * p := by
    have hpn : p ≠ 0 := fun h => by rw [h, Rat.zero_mul] at hp; grind
    rcases Rat.le_total (a := 0) (b := p) with h3 | h3
    ·exact Rat.mul_pos (by grind) (by grind)
    ·have := Rat.mul_pos (show 0 < -p by grind) (show 0 < -p by grind)
     grind
   have k2 := Rat.mul_nonneg (show 0 ≤ 1 - t by grind) (show 0 ≤ p * p by grind)
   have k3 := Rat.mul_nonneg t0 (show 0 ≤ p * q by grind)
   by_cases ht : t = 0
   ·subst ht; grind
   ·have := Rat.mul_pos (show 0 < t by grind) hp
    grind
  by_cases h1 : 0 < ar a b c * ar a b d ∨ 0 < ar c d a * ar c d b
  ·rw [if_pos h1, meetL_none fun x hx ⟨k1, k2⟩ => h1.elim (fun h => side h k2 k1.1) (fun h => side h k1 k2.1), if_pos (h1.elim (fun h => .inr (by grind)) (fun h => .inl (by grind)))]
  ·rw [if_neg h1]
   have h2 : ¬0 < ar a b c * ar a b d := fun h => h1 (.inl h)
   have h3 : ¬0 < ar c d a * ar c d b := fun h => h1 (.inr h)
   obtain ⟨hne, t0, t1⟩ := rat_sgn h2 h0
   have huv : ar c d a - ar c d b = -(ar a b c - ar a b d) := by unfold ar; grind
   obtain ⟨hne', s0, s1⟩ := rat_sgn h3 (fun h => hne (by grind))
   have hz : atK c d (ar a b c) (ar a b d) = atK a b (ar c d a) (ar c d b) := by
    unfold atK
    have e1 : ar a b c / (ar a b c - ar a b d) * (ar a b c - ar a b d) = ar a b c := by grind
    have e2 : ar c d a / (ar c d a - ar c d b) * (ar c d a - ar c d b) = ar c d a := by grind
    generalize ar a b c / (ar a b c - ar a b d) = t at *
    generalize ar c d a / (ar c d a - ar c d b) = s at *
    generalize hD : ar a b c - ar a b d = D at *
    have k1 : (c.1 + t * (d.1 - c.1) - (a.1 + s * (b.1 - a.1))) * D = 0 := by
     have : (c.1 + t * (d.1 - c.1) - (a.1 + s * (b.1 - a.1))) * D = (c.1 - a.1) * D + (t * D) * (d.1 - c.1) - (s * D) * (b.1 - a.1) := by grind
     rw [this, e1]
     have : s * D = -ar c d a := by grind
     rw [this, ← hD]
     unfold ar; grind
    have k2 : (c.2 + t * (d.2 - c.2) - (a.2 + s * (b.2 - a.2))) * D = 0 := by
     have : (c.2 + t * (d.2 - c.2) - (a.2 + s * (b.2 - a.2))) * D = (c.2 - a.2) * D + (t * D) * (d.2 - c.2) - (s * D) * (b.2 - a.2) := by grind
     rw [this, e1]
     have : s * D = -ar c d a := by grind
     rw [this, ← hD]
     unfold ar; grind
    have m1 := (Rat.mul_eq_zero.1 k1).resolve_right hne
    have m2 := (Rat.mul_eq_zero.1 k2).resolve_right hne
    exact Prod.ext (by show c.1 + t * (d.1 - c.1) = a.1 + s * (b.1 - a.1); grind) (by show c.2 + t * (d.2 - c.2) = a.2 + s * (b.2 - a.2); grind)
   have c1 : btw c d (atK c d (ar a b c) (ar a b d)) := btw_onS.2 ⟨_, t0, t1, rfl, rfl⟩
   have c2 : btw a b (atK c d (ar a b c) (ar a b d)) := by rw [hz]; exact btw_onS.2 ⟨_, s0, s1, rfl, rfl⟩
   have uniq : ∀ x, btw a b x ∧ btw c d x → x = atK c d (ar a b c) (ar a b d) := by
    rintro x ⟨k1, k2⟩
    obtain ⟨t, _, _, e1, e2⟩ := btw_onS.1 k2
    have hx : x = (c.1 + t * (d.1 - c.1), c.2 + t * (d.2 - c.2)) := Prod.ext e1 e2
    have k3 := k1.1
    rw [hx, ar_line] at k3
    have ht : t = ar a b c / (ar a b c - ar a b d) := by
     have e : ar a b c / (ar a b c - ar a b d) * (ar a b c - ar a b d) = ar a b c := by grind
     generalize ar a b c / (ar a b c - ar a b d) = s at *
     have : (t - s) * (ar a b c - ar a b d) = 0 := by grind
     have := (Rat.mul_eq_zero.1 this).resolve_right hne
     grind
    rw [hx, ht]; rfl
   have ends : (ar a b c = 0 → atK c d (ar a b c) (ar a b d) = c) ∧ (ar a b d = 0 → atK c d (ar a b c) (ar a b d) = d) := by
    constructor
    ·intro h
     unfold atK
     rw [h]
     exact Prod.ext (by show c.1 + 0 / _ * _ = c.1; grind) (by show c.2 + 0 / _ * _ = c.2; grind)
    ·intro h
     unfold atK
     have e : ar a b c / (ar a b c - ar a b d) = 1 := by rw [h] at hne ⊢; grind
     rw [e]
     exact Prod.ext (by show c.1 + 1 * _ = d.1; grind) (by show c.2 + 1 * _ = d.2; grind)
   have ends' : (ar c d a = 0 → atK c d (ar a b c) (ar a b d) = a) ∧ (ar c d b = 0 → atK c d (ar a b c) (ar a b d) = b) := by
    rw [hz]
    constructor
    ·intro h
     unfold atK
     rw [h]
     exact Prod.ext (by show a.1 + 0 / _ * _ = a.1; grind) (by show a.2 + 0 / _ * _ = a.2; grind)
    ·intro h
     unfold atK
     have e : ar c d a / (ar c d a - ar c d b) = 1 := by rw [h] at hne' ⊢; grind
     rw [e]
     exact Prod.ext (by show a.1 + 1 * _ = b.1; grind) (by show a.2 + 1 * _ = b.2; grind)
   by_cases hm : atK c d (ar a b c) (ar a b d) ∈ [a, b, c, d]
   ·exact (meetL_one hm ⟨c2, c1⟩ fun x _ h => uniq x h).symm
   ·have n1 : ar a b c ≠ 0 := fun h => hm (by rw [ends.1 h]; simp)
    have n2 : ar a b d ≠ 0 := fun h => hm (by rw [ends.2 h]; simp)
    have n3 : ar c d a ≠ 0 := fun h => hm (by rw [ends'.1 h]; simp)
    have n4 : ar c d b ≠ 0 := fun h => hm (by rw [ends'.2 h]; simp)
    rw [meetL_none fun x hx h => hm (by rw [← uniq x h]; exact hx), if_neg, hz]
    rintro (h | h)
    ·rcases Rat.mul_eq_zero.1 (Rat.le_antisymm (Rat.not_lt.1 h3) h) with h | h
     ·exact n3 h
     ·exact n4 h
    ·rcases Rat.mul_eq_zero.1 (Rat.le_antisymm (Rat.not_lt.1 h2) h) with h | h
     ·exact n1 h
     ·exact n2 h
end Go.Ge

/-
 PLANE GEOMETRY: when two sides of a chain or of a ring have more in common than they may: two ways. Own work.
-/
namespace Go.Ge

/-- how many places two segments have in common, at most two -/
def Mt.num : Mt → Nat
 | .apart => 0
 | .touch _ => 1
 | .over => 2
/-- the only common place of ends -/
theorem meetL_touch {a b c d p : Pt} (h : meetL a b c d = .touch p) {x : Pt} (hx : x ∈ [a, b, c, d]) (hb : btw a b x ∧ btw c d x) : x = p := by
 obtain ⟨h1, h2⟩ := onB_mem a b c d 4 [a, b, c, d] rfl
 have hm := (h2 x).2 ⟨hx, hb⟩
 unfold meetL at h
 generalize onB a b c d [a, b, c, d] = l at *
 match l with
 | [] => cases hm
 | [y] => cases h; exact List.mem_singleton.1 hm
 | y :: z :: l => cases h
theorem meetL_some {a b c d x : Pt} (hx : x ∈ [a, b, c, d]) (hb : btw a b x ∧ btw c d x) : meetL a b c d ≠ .apart := by
 obtain ⟨h1, h2⟩ := onB_mem a b c d 4 [a, b, c, d] rfl
 have hm := (h2 x).2 ⟨hx, hb⟩
 unfold meetL
 generalize onB a b c d [a, b, c, d] = l at *
 match l with
 | [] => cases hm
 | [y] => exact fun h => by cases h
 | y :: z :: l => exact fun h => by cases h
/-- may two sides meet once? -/
def next (n segs i k : Nat) : Prop := k = i + 1 ∨ (segs = n ∧ i = 0 ∧ k = n - 1)
instance (n segs i k : Nat) : Decidable (next n segs i k) := inferInstanceAs (Decidable (k = i + 1 ∨ (segs = n ∧ i = 0 ∧ k = n - 1)))
/-- the program's test -/
def crossP (g : Nat → Pt) (n segs i k : Nat) : Prop :=
 match meetP (g i) (g ((i + 1) % n)) (g k) (g ((k + 1) % n)) with
 | .apart => False
 | .over => True
 | .touch p => if ¬next n segs i k then True else if k = i + 1 ∧ p = g k then False else p ≠ g i ∨ k ≠ n - 1
/-- the law's test -/
def crossL (g : Nat → Pt) (n segs i k : Nat) : Prop := (if next n segs i k then 1 else 0) < (meetL (g i) (g ((i + 1) % n)) (g k) (g ((k + 1) % n))).num
theorem cross_eq {g : Nat → Pt} {n segs i k : Nat} (hs : segs = n ∨ segs + 1 = n) (hn : 2 ≤ n) (hik : i < k) (hk : k < segs) (hne : ∀ j, j < segs → g j ≠ g ((j + 1) % n)) : crossP g n segs i k ↔ crossL g n segs i k := by
 unfold crossP crossL
 rw [meet_eq (hne i (by omega)) (hne k hk)]
 generalize hm : meetL (g i) (g ((i + 1) % n)) (g k) (g ((k + 1) % n)) = m
 cases m with
 | apart => simp [Mt.num]
 | over => simp only [Mt.num, true_iff]; split <;> omega
 | touch p =>
   by_cases hx : next n segs i k
   ·simp only [hx, not_true, if_false, if_true, Mt.num]
    have e1 : (i + 1) % n = i + 1 := Nat.mod_eq_of_lt (by omega)
    by_cases h1 : k = i + 1
    ·have hp : g k = p := by
      refine meetL_touch hm (by simp) ⟨?_, btw_onS.2 (onS_left _ _)⟩
      rw [e1, ← h1]; exact btw_onS.2 (onS_right _ _)
     simp [h1, ← hp]
    ·rcases hx with h2 | ⟨h2, h3, h4⟩
     ·exact absurd h2 h1
     ·have e2 : (k + 1) % n = 0 := by rw [h4, show n - 1 + 1 = n by omega, Nat.mod_self]
      have hp : g i = p := by
       refine meetL_touch hm (by simp) ⟨btw_onS.2 (onS_left _ _), ?_⟩
       rw [e2, h3]; exact btw_onS.2 (onS_right _ _)
      simp only [h1, false_and, if_false, ← hp]
      simp [h4]
   ·simp [hx, Mt.num]
end Go.Ge

/-
 PLANE GEOMETRY: inside or outside, by the sides to the east and by the sides above. Own work.
-/
namespace Go.Ge

/-- a side to the east of a place: the program's test -/
def eastP (a b p : Pt) : Prop :=
 if b.2 < a.2 then b.2 ≤ p.2 ∧ p.2 < a.2 ∧ 0 < ar b a p else a.2 ≤ p.2 ∧ p.2 < b.2 ∧ 0 < ar a b p
/-- a side above a place: the law's test -/
def northP (a b p : Pt) : Prop :=
 if b.1 < a.1 then b.1 ≤ p.1 ∧ p.1 < a.1 ∧ ar b a p < 0 else a.1 ≤ p.1 ∧ p.1 < b.1 ∧ ar a b p < 0
instance (a b p : Pt) : Decidable (eastP a b p) := by unfold eastP; infer_instance
instance (a b p : Pt) : Decidable (northP a b p) := by unfold northP; infer_instance
def ne1 (p v : Pt) : Prop := p.1 < v.1 ∧ p.2 < v.2
instance (p v : Pt) : Decidable (ne1 p v) := inferInstanceAs (Decidable (p.1 < v.1 ∧ p.2 < v.2))
theorem ar_swap (a b p : Pt) : ar b a p = -ar a b p := by unfold ar; grind
theorem sgp (u v : Rat) : (0 < u → 0 < v → 0 < u * v) ∧ (0 ≤ u → v ≤ 0 → u * v ≤ 0) ∧ (u ≤ 0 → 0 ≤ v → u * v ≤ 0) ∧ (u ≤ 0 → v ≤ 0 → 0 ≤ u * v) := by
 refine ⟨Rat.mul_pos, fun h k => ?_, fun h k => ?_, fun h k => ?_⟩
 ·have := Rat.mul_nonneg h (show 0 ≤ -v by grind); grind
 ·have := Rat.mul_nonneg (show 0 ≤ -u by grind) k; grind
 ·have := Rat.mul_nonneg (show 0 ≤ -u by grind) (show 0 ≤ -v by grind); grind
/-- inside or outside, side by side -/
def sE (g : Nat → Pt) (n : Nat) (p : Pt) : Nat → Int
 | 0 => -1
 | k + 1 => if eastP (g k) (g ((k + 1) % n)) p then 0 - sE g n p k else sE g n p k
def sN (g : Nat → Pt) (n : Nat) (p : Pt) : Nat → Int
 | 0 => -1
 | k + 1 => if northP (g k) (g ((k + 1) % n)) p then 0 - sN g n p k else sN g n p k
theorem sE_pm (g : Nat → Pt) (n : Nat) (p : Pt) : ∀ k, sE g n p k = 1 ∨ sE g n p k = -1
 | 0 => .inr rfl
 | k + 1 => by have := sE_pm g n p k; unfold sE; split <;> omega
end Go.Ge

/-
 PLANE GEOMETRY: the area of a ring: from any point on, and turned round. Own work.
-/
namespace Go.Ge

def cr (u v : Pt) : Rat := u.1 * v.2 - u.2 * v.1
theorem ar_cr (a b c : Pt) : ar a b c = cr a b + cr b c + cr c a := by unfold ar cr; grind
theorem cr_swap (a b : Pt) : cr a b = -cr b a := by unfold cr; grind
theorem cr_self (a : Pt) : cr a a = 0 := by unfold cr; grind
/-- the way from x over l, closed to h -/
def wayS (h x : Pt) : List Pt → Rat
 | [] => cr x h
 | y :: l => cr x y + wayS h y l
def cyc : List Pt → Rat
 | [] => 0
 | a :: l => wayS a a l
theorem wayS_snoc (h a : Pt) : ∀ (x : Pt) (l : List Pt), wayS h x (l ++ [a]) = wayS a x l + cr a h
 | x, [] => rfl
 | x, y :: l => by
   show cr x y + wayS h y (l ++ [a]) = cr x y + wayS a y l + cr a h
   rw [wayS_snoc h a y l]; grind
theorem cyc_one (a : Pt) (l : List Pt) : cyc (l ++ [a]) = cyc (a :: l) := by
 cases l with
 | nil => rfl
 | cons b l =>
   show wayS b b (l ++ [a]) = cr a b + wayS a b l
   rw [wayS_snoc]; grind
/-- the sum of the steps of a list -/
def path : List Pt → Rat
 | [] => 0
 | [_] => 0
 | a :: b :: l => cr a b + path (b :: l)
theorem path_app : ∀ (l : List Pt) (a b : Pt) (m : List Pt), path (l ++ a :: b :: m) = path (l ++ [a]) + cr a b + path (b :: m)
 | [], a, b, m => by show cr a b + path (b :: m) = 0 + cr a b + path (b :: m); grind
 | [x], a, b, m => by show cr x a + (cr a b + path (b :: m)) = cr x a + 0 + cr a b + path (b :: m); grind
 | x :: y :: l, a, b, m => by
   have h := path_app (y :: l) a b m
   show cr x y + path ((y :: l) ++ a :: b :: m) = cr x y + path ((y :: l) ++ [a]) + cr a b + path (b :: m)
   rw [h]; grind
theorem path_rev : ∀ (n : Nat) (l : List Pt), l.length = n → path l.reverse = -path l
 | 0, l, h => by
   obtain rfl := List.length_eq_zero_iff.1 h
   show (0 : Rat) = -0; grind
 | n + 1, l, h => by
   match l, h with
   | [a], _ => show (0 : Rat) = -0; grind
   | a :: b :: l, h =>
     have ih := path_rev n (b :: l) (by simpa using h)
     have e : (a :: b :: l).reverse = l.reverse ++ b :: a :: [] := by simp
     rw [e, path_app]
     have e2 : l.reverse ++ [b] = (b :: l).reverse := by simp
     rw [e2, ih]
     show -path (b :: l) + cr b a + 0 = -(cr a b + path (b :: l))
     rw [cr_swap b a]; grind
theorem wayS_path : ∀ (l : List Pt) (h x : Pt), wayS h x l = path (x :: l ++ [h])
 | [], h, x => by show cr x h = cr x h + 0; grind
 | y :: l, h, x => by
   show cr x y + wayS h y l = cr x y + path (y :: l ++ [h])
   rw [wayS_path l h y]
theorem cyc_path (a : Pt) (l : List Pt) : cyc (a :: l) = path (a :: l ++ [a]) := wayS_path l a a
theorem cyc_rev (l : List Pt) : cyc l.reverse = -cyc l := by
 cases l with
 | nil => show (0 : Rat) = -0; grind
 | cons a l =>
   rw [List.reverse_cons, cyc_one, cyc_path, cyc_path]
   have : a :: l.reverse ++ [a] = (a :: l ++ [a]).reverse := by simp
   rw [this, path_rev _ _ rfl]
/-- triangles from the first point -/
def fan (a : Pt) : Pt → List Pt → Rat
 | _, [] => 0
 | x, y :: l => ar a x y + fan a y l
theorem fan_way (a : Pt) : ∀ (l : List Pt) (x : Pt), fan a x l = wayS a x l + cr a x
 | [], x => by show (0 : Rat) = cr x a + cr a x; rw [cr_swap x a]; grind
 | y :: l, x => by
   show ar a x y + fan a y l = cr x y + wayS a y l + cr a x
   rw [fan_way a l y, ar_cr, cr_swap y a]; grind
theorem fan_cyc (a : Pt) (l : List Pt) : fan a a l = cyc (a :: l) := by
 rw [fan_way, cr_self]
 show wayS a a l + 0 = wayS a a l
 grind
end Go.Ge

/-
 PLANE GEOMETRY: chains: what is wrong with one; leaving out points. Own work.
-/
namespace Go.Ge

/-- the points of a list, by their places -/
def gt (c : List Pt) (j : Nat) : Pt := c.getD j (0, 0)
theorem gt_get {c : List Pt} {j : Nat} {x : Pt} (h : c[j]? = some x) : gt c j = x := by simp [gt, List.getD_eq_getElem?_getD, h]
instance (g : Nat → Pt) (n segs i k : Nat) : Decidable (crossP g n segs i k) := by
 unfold crossP
 split <;> infer_instance
instance (g : Nat → Pt) (n segs i k : Nat) : Decidable (crossL g n segs i k) := by
 unfold crossL; infer_instance
/-- two points beside each other are equal -/
def dbl (c : List Pt) (segs : Nat) : Bool := (List.range segs).any fun j => decide (gt c j = gt c ((j + 1) % c.length))
def crs (c : List Pt) (segs : Nat) : Bool := (List.range segs).any fun i => (List.range segs).any fun k => decide (i < k) && decide (crossP (gt c) c.length segs i k)
def crsL (c : List Pt) (segs : Nat) : Bool := (List.range segs).any fun i => (List.range segs).any fun k => decide (i < k) && decide (crossL (gt c) c.length segs i k)
theorem dbl_iff {c : List Pt} {segs : Nat} : dbl c segs = true ↔ ∃ j, j < segs ∧ gt c j = gt c ((j + 1) % c.length) := by
 simp [dbl]
theorem crs_iff {c : List Pt} {segs : Nat} : crs c segs = true ↔ ∃ i k, i < k ∧ k < segs ∧ crossP (gt c) c.length segs i k := by
 simp only [crs, List.any_eq_true, List.mem_range, Bool.and_eq_true, decide_eq_true_eq]
 constructor
 ·rintro ⟨i, _, k, h1, h2, h3⟩; exact ⟨i, k, h2, h1, h3⟩
 ·rintro ⟨i, k, h1, h2, h3⟩; exact ⟨i, by omega, k, h2, h1, h3⟩
/-- how many segments -/
def segs (c : List Pt) (ring : Bool) : Nat := if ring then c.length else c.length - 1
/-- the error of a chain, or of a ring, of right points -/
def chkN (c : List Pt) (ring : Bool) : Int :=
 if c.length < (if ring then 3 else 2) then 5 else if 400 < c.length then 4 else if dbl c (segs c ring) then 17 else if crs c (segs c ring) then 26 else 0
/-- the magnitude -/
def abQ (q : Rat) : Rat := if q < 0 then -q else q
/-- is a list a chain? -/
def good (c : List Pt) : Bool := decide (chkN c false = 0)
/-- the point to be left out, of the points 1 to k -/
def pick (most : Rat) (c : List Pt) : Nat → Option (Nat × Rat)
 | 0 => none
 | k + 1 =>
   match pick most c k with
   | none => if abQ (ar (gt c k) (gt c (k + 1)) (gt c (k + 2))) ≤ most ∧ good (c.eraseIdx (k + 1)) = true then some (k + 1, abQ (ar (gt c k) (gt c (k + 1)) (gt c (k + 2)))) else none
   | some (j, y) => if abQ (ar (gt c k) (gt c (k + 1)) (gt c (k + 2))) < y ∧ good (c.eraseIdx (k + 1)) = true then some (k + 1, abQ (ar (gt c k) (gt c (k + 1)) (gt c (k + 2)))) else some (j, y)
/-- points left out, at most so many -/
def simp (most : Rat) : Nat → List Pt → List Pt
 | 0, c => c
 | f + 1, c => match pick most c (c.length - 2) with
   | none => c
   | some (i, _) => simp most f (c.eraseIdx i)
theorem pick_spec {most : Rat} {c : List Pt} : ∀ {k i : Nat} {y : Rat}, pick most c k = some (i, y) → 1 ≤ i ∧ i ≤ k ∧ y ≤ most ∧ good (c.eraseIdx i) = true
 | 0, _, _, h => by cases h
 | k + 1, i, y, h => by
   unfold pick at h
   split at h
   ·split at h
    ·rename_i hc
     cases h
     exact ⟨by omega, by omega, hc.1, hc.2⟩
    ·cases h
   ·rename_i j z hj
    obtain ⟨h1, h2, h3, h4⟩ := pick_spec hj
    split at h
    ·rename_i hc
     cases h
     exact ⟨by omega, by omega, by grind, hc.2⟩
    ·cases h
     exact ⟨h1, by omega, h3, h4⟩
end Go.Ge

/-
 PLANE GEOMETRY: where two chains meet, as a list. Own work.
-/
namespace Go.Ge

abbrev Cr := Nat × Nat × Pt
def Mt.isOver : Mt → Bool
 | .over => true
 | _ => false
def Mt.tch (i k : Nat) : Mt → List Cr
 | .touch p => [(i, k, p)]
 | _ => []
/-- the places of side i on the first k sides of the other chain -/
def rowC (M : Nat → Nat → Mt) (i : Nat) : Nat → List Cr
 | 0 => []
 | k + 1 => rowC M i k ++ (M i k).tch i k
/-- those of the first i sides -/
def outC (M : Nat → Nat → Mt) (nb : Nat) : Nat → List Cr
 | 0 => []
 | i + 1 => outC M nb i ++ rowC M i nb
def ovC (M : Nat → Nat → Mt) (na nb : Nat) : Bool := (List.range na).any fun i => (List.range nb).any fun k => (M i k).isOver
theorem ovC_iff {M : Nat → Nat → Mt} {na nb : Nat} : ovC M na nb = true ↔ ∃ i k, i < na ∧ k < nb ∧ (M i k).isOver = true := by
 simp only [ovC, List.any_eq_true, List.mem_range]
 constructor
 ·rintro ⟨i, h1, k, h2, h3⟩; exact ⟨i, k, h1, h2, h3⟩
 ·rintro ⟨i, k, h1, h2, h3⟩; exact ⟨i, h1, k, h2, h3⟩
theorem tch_len (m : Mt) (i k : Nat) : (m.tch i k).length ≤ 1 := by cases m <;> simp [Mt.tch]
theorem mem_tch {m : Mt} {i k : Nat} {x : Cr} (h : x ∈ m.tch i k) : m = .touch x.2.2 ∧ x.1 = i ∧ x.2.1 = k := by
 cases m <;> simp [Mt.tch] at h
 subst h; exact ⟨rfl, rfl, rfl⟩
theorem rowC_len (M : Nat → Nat → Mt) (i : Nat) : ∀ k, (rowC M i k).length ≤ k
 | 0 => Nat.le_refl _
 | k + 1 => by
   unfold rowC
   rw [List.length_append]
   have := rowC_len M i k
   have := tch_len (M i k) i k
   omega
theorem outC_len (M : Nat → Nat → Mt) (nb : Nat) : ∀ na, (outC M nb na).length ≤ na * nb
 | 0 => by simp [outC]
 | na + 1 => by
   unfold outC
   rw [List.length_append, Nat.add_mul]
   have := outC_len M nb na
   have := rowC_len M na nb
   omega
theorem mem_rowC {M : Nat → Nat → Mt} {i : Nat} {x : Cr} : ∀ {k : Nat}, x ∈ rowC M i k → x.2.1 < k ∧ x.1 = i ∧ M i x.2.1 = .touch x.2.2
 | 0, h => by cases h
 | k + 1, h => by
   unfold rowC at h
   rcases List.mem_append.1 h with h | h
   ·obtain ⟨h1, h2, h3⟩ := mem_rowC h
    exact ⟨by omega, h2, h3⟩
   ·obtain ⟨h1, h2, h3⟩ := mem_tch h
    exact ⟨by omega, h2, by rw [h3]; exact h1⟩
theorem mem_outC {M : Nat → Nat → Mt} {nb : Nat} {x : Cr} : ∀ {na : Nat}, x ∈ outC M nb na → x.1 < na ∧ x.2.1 < nb ∧ M x.1 x.2.1 = .touch x.2.2
 | 0, h => by cases h
 | na + 1, h => by
   unfold outC at h
   rcases List.mem_append.1 h with h | h
   ·obtain ⟨h1, h2, h3⟩ := mem_outC h
    exact ⟨by omega, h2, h3⟩
   ·obtain ⟨h1, h2, h3⟩ := mem_rowC h
    exact ⟨by omega, h1, by rw [h2]; exact h3⟩
/-- how two sides of two chains meet, by both ways -/
def mP (a b : List Pt) (i k : Nat) : Mt := meetP (gt a i) (gt a (i + 1)) (gt b k) (gt b (k + 1))
def mL (a b : List Pt) (i k : Nat) : Mt := meetL (gt a i) (gt a (i + 1)) (gt b k) (gt b (k + 1))
theorem good_parts {c : List Pt} (h : good c = true) : 2 ≤ c.length ∧ c.length ≤ 400 ∧ ¬dbl c (c.length - 1) = true ∧ ¬crs c (c.length - 1) = true := by
 unfold good chkN segs at h
 simp only [Bool.false_eq_true, if_false, decide_eq_true_eq] at h
 by_cases h1 : c.length < 2
 ·rw [if_pos h1] at h; omega
 ·rw [if_neg h1] at h
  by_cases h2 : 400 < c.length
  ·rw [if_pos h2] at h; omega
  ·rw [if_neg h2] at h
   by_cases h3 : dbl c (c.length - 1) = true
   ·rw [if_pos h3] at h; omega
   ·rw [if_neg h3] at h
    by_cases h4 : crs c (c.length - 1) = true
    ·rw [if_pos h4] at h; omega
    ·exact ⟨by omega, by omega, h3, h4⟩
theorem good_len {c : List Pt} (h : good c = true) : 2 ≤ c.length := (good_parts h).1
end Go.Ge

/-
 PLANE GEOMETRY: rings: their points are different; a ring from its least point on. Own work.
-/
namespace Go.Ge

theorem ring_parts {c : List Pt} (h : chkN c true = 0) : 3 ≤ c.length ∧ c.length ≤ 400 ∧ ¬dbl c c.length = true ∧ ¬crs c c.length = true := by
 unfold chkN segs at h
 simp only [if_true] at h
 by_cases h1 : c.length < 3
 ·rw [if_pos h1] at h; omega
 ·rw [if_neg h1] at h
  by_cases h2 : 400 < c.length
  ·rw [if_pos h2] at h; omega
  ·rw [if_neg h2] at h
   by_cases h3 : dbl c c.length = true
   ·rw [if_pos h3] at h; omega
   ·rw [if_neg h3] at h
    by_cases h4 : crs c c.length = true
    ·rw [if_pos h4] at h; omega
    ·exact ⟨by omega, by omega, h3, h4⟩
theorem ring_ne {c : List Pt} (h : chkN c true = 0) {i k : Nat} (hik : i < k) (hk : k < c.length) : gt c i ≠ gt c k := by
 intro e
 obtain ⟨h3, _, hd, hx⟩ := ring_parts h
 have hne : ∀ j, j < c.length → gt c j ≠ gt c ((j + 1) % c.length) := fun j hj e => hd (dbl_iff.2 ⟨j, hj, e⟩)
 by_cases hn : next c.length c.length i k
 ·rcases hn with h1 | ⟨_, h1, h2⟩
  ·refine hne i (by omega) ?_
   rw [Nat.mod_eq_of_lt (by omega), ← h1]; exact e
  ·refine hne k hk ?_
   rw [show k + 1 = c.length by omega, Nat.mod_self, ← h1]; exact e.symm
 ·refine hx (crs_iff.2 ⟨i, k, hik, hk, ?_⟩)
  unfold crossP
  rw [meet_eq (hne i (by omega)) (hne k hk)]
  have hs : meetL (gt c i) (gt c ((i + 1) % c.length)) (gt c k) (gt c ((k + 1) % c.length)) ≠ .apart :=
   meetL_some (x := gt c i) (by simp) ⟨btw_onS.2 (onS_left _ _), by rw [e]; exact btw_onS.2 (onS_left _ _)⟩
  generalize meetL (gt c i) (gt c ((i + 1) % c.length)) (gt c k) (gt c ((k + 1) % c.length)) = m at hs ⊢
  cases m with
  | apart => exact absurd rfl hs
  | over => trivial
  | touch p => simp only [hn, not_false_iff, if_true]
/-- a list from a place on -/
def rot (c : List Pt) (k : Nat) : List Pt := c.drop k ++ c.take k
theorem gt_eq {c : List Pt} {j : Nat} (hj : j < c.length) : c[j]? = some (gt c j) := by
 rw [List.getElem?_eq_getElem hj]; simp [gt, List.getD_eq_getElem?_getD, hj]
theorem gt_rev {c : List Pt} {j : Nat} (hj : j < c.length) : gt c.reverse j = gt c (c.length - 1 - j) := by
 refine gt_get ?_
 rw [List.getElem?_reverse hj]
 exact gt_eq (by omega)
theorem ring_gt {c : List Pt} (h : chkN c true = 0) {i k : Nat} (hi : i < c.length) (hk : k < c.length) (e : gt c i = gt c k) : i = k := by
 rcases Nat.lt_trichotomy i k with h1 | h1 | h1
 ·exact absurd e (ring_ne h h1 hk)
 ·exact h1
 ·exact absurd e.symm (ring_ne h h1 hi)
end Go.Ge

/-
 PLANE GEOMETRY: a ring turned, or turned round, is a ring. Own work.
-/
namespace Go.Ge

def cN (n : Nat) (p : Bool) : Nat := match n with
 | 0 => if p then 0 else 1
 | 1 => 1
 | _ => 2
theorem meetL_num (a b c d : Pt) : (meetL a b c d).num = cN (onB a b c d [a, b, c, d]).length (decide (0 ≤ ar c d a * ar c d b ∨ 0 ≤ ar a b c * ar a b d)) := by
 unfold meetL cN
 match onB a b c d [a, b, c, d] with
 | [] =>
   by_cases h : 0 ≤ ar c d a * ar c d b ∨ 0 ≤ ar a b c * ar a b d
   ·simp only [if_pos h, List.length_nil, decide_eq_true h, if_true]; rfl
   ·simp only [if_neg h, List.length_nil, decide_eq_false h, Bool.false_eq_true, if_false]; rfl
 | [x] => rfl
 | x :: y :: l => rfl
theorem onB_len {a b c d a' b' c' d' : Pt} (h : ∀ x, (x ∈ [a, b, c, d] ∧ btw a b x ∧ btw c d x) ↔ (x ∈ [a', b', c', d'] ∧ btw a' b' x ∧ btw c' d' x)) : (onB a b c d [a, b, c, d]).length = (onB a' b' c' d' [a', b', c', d']).length := by
 obtain ⟨h1, h2⟩ := onB_mem a b c d 4 [a, b, c, d] rfl
 obtain ⟨h3, h4⟩ := onB_mem a' b' c' d' 4 [a', b', c', d'] rfl
 exact ((List.perm_ext_iff_of_nodup h1 h3).2 fun x => by rw [h2, h4]; exact h x).length_eq
theorem num_symm (a b c d : Pt) : (meetL a b c d).num = (meetL c d a b).num := by
 rw [meetL_num, meetL_num, onB_len (a' := c) (b' := d) (c' := a) (d' := b) fun x => by simp only [List.mem_cons, List.not_mem_nil, or_false]; grind]
 rw [decide_eq_decide.2 (show (0 ≤ ar c d a * ar c d b ∨ 0 ≤ ar a b c * ar a b d) ↔ (0 ≤ ar a b c * ar a b d ∨ 0 ≤ ar c d a * ar c d b) from or_comm)]
theorem btw_swap (a b x : Pt) : btw b a x ↔ btw a b x := ⟨btw_symm, btw_symm⟩
theorem num_swap (a b c d : Pt) : (meetL b a c d).num = (meetL a b c d).num := by
 rw [meetL_num, meetL_num, onB_len (a := b) (b := a) (a' := a) (b' := b) (c' := c) (d' := d) fun x => by rw [btw_swap]; simp only [List.mem_cons, List.not_mem_nil, or_false]; grind]
 rw [ar_swap a b c, ar_swap a b d, show -ar a b c * -ar a b d = ar a b c * ar a b d by grind, show ar c d b * ar c d a = ar c d a * ar c d b by grind]
theorem num_swap2 (a b c d : Pt) : (meetL a b d c).num = (meetL a b c d).num := by
 rw [num_symm, num_swap, num_symm]
def adj (n i k : Nat) : Bool := decide ((i + 1) % n = k) || decide ((k + 1) % n = i)
def nmS (c : List Pt) (i k : Nat) : Nat := (meetL (gt c i) (gt c ((i + 1) % c.length)) (gt c k) (gt c ((k + 1) % c.length))).num
theorem nmS_symm (c : List Pt) (i k : Nat) : nmS c i k = nmS c k i := num_symm ..
theorem adj_next {n i k : Nat} (hik : i < k) (hk : k < n) : next n n i k ↔ adj n i k = true := by
 unfold next adj
 simp only [Bool.or_eq_true, decide_eq_true_eq]
 rw [Nat.mod_eq_of_lt (show i + 1 < n by omega)]
 by_cases h : k + 1 = n
 ·rw [h, Nat.mod_self]
  constructor
  ·rintro (h1 | ⟨_, h1, h2⟩) <;> omega
  ·rintro (h1 | h1)
   ·exact .inl h1.symm
   ·exact .inr ⟨trivial, h1.symm, by omega⟩
 ·rw [Nat.mod_eq_of_lt (show k + 1 < n by omega)]; omega
theorem adj_symm (n i k : Nat) : adj n i k = adj n k i := by unfold adj; rw [Bool.or_comm]
theorem ring_iff {c : List Pt} : chkN c true = 0 ↔ 3 ≤ c.length ∧ c.length ≤ 400 ∧ (∀ j, j < c.length → gt c j ≠ gt c ((j + 1) % c.length)) ∧ ∀ i k, i < c.length → k < c.length → i ≠ k → nmS c i k ≤ if adj c.length i k = true then 1 else 0 := by
 constructor
 ·intro h
  obtain ⟨h1, h2, h3, h4⟩ := ring_parts h
  have hne : ∀ j, j < c.length → gt c j ≠ gt c ((j + 1) % c.length) := fun j hj e => h3 (dbl_iff.2 ⟨j, hj, e⟩)
  have key : ∀ i k, i < k → k < c.length → nmS c i k ≤ if adj c.length i k = true then 1 else 0 := fun i k hik hk => by
   refine Nat.not_lt.1 fun hlt => h4 (crs_iff.2 ⟨i, k, hik, hk, (cross_eq (.inl rfl) (by omega) hik hk hne).2 ?_⟩)
   unfold crossL
   simp only [adj_next hik hk]
   exact hlt
  refine ⟨h1, h2, hne, fun i k hi hk hn => ?_⟩
  rcases Nat.lt_or_gt_of_ne hn with h | h
  ·exact key i k h hk
  ·rw [nmS_symm, adj_symm]; exact key k i h hi
 ·rintro ⟨h1, h2, h3, h4⟩
  have hd : ¬dbl c c.length = true := fun h => by obtain ⟨j, hj, e⟩ := dbl_iff.1 h; exact h3 j hj e
  have hx : ¬crs c c.length = true := fun h => by
   obtain ⟨i, k, hik, hk, hc⟩ := crs_iff.1 h
   have hl := (cross_eq (.inl rfl) (by omega) hik hk h3).1 hc
   unfold crossL at hl
   simp only [adj_next hik hk] at hl
   have := h4 i k (by omega) hk (by omega)
   unfold nmS at this
   omega
  unfold chkN segs
  simp only [if_true]
  rw [if_neg (by omega), if_neg (by omega), if_neg hd, if_neg hx]
theorem mod_rev1 : ∀ n, n < 9 → ∀ i, i < n → n - 1 - i < n ∧ n - 1 - (i + 1) % n < n ∧ (n - 1 - (i + 1) % n + 1) % n = n - 1 - i := by decide +kernel
theorem mod_rev2 : ∀ n, n < 9 → ∀ i, i < n → ∀ k, k < n → (i = k ∨ n - 1 - (i + 1) % n ≠ n - 1 - (k + 1) % n) ∧ adj n (n - 1 - (i + 1) % n) (n - 1 - (k + 1) % n) = adj n i k := by decide +kernel
theorem ring_rev {c : List Pt} (h9 : c.length < 9) (h : chkN c true = 0) : chkN c.reverse true = 0 := by
 obtain ⟨h1, h2, h3, h4⟩ := ring_iff.1 h
 have hm : ∀ x, x % c.length < c.length := fun x => Nat.mod_lt _ (by omega)
 refine ring_iff.2 ?_
 unfold nmS
 rw [List.length_reverse]
 have hs : ∀ j, j < c.length → gt c.reverse j = gt c ((c.length - 1 - (j + 1) % c.length + 1) % c.length) ∧ gt c.reverse ((j + 1) % c.length) = gt c (c.length - 1 - (j + 1) % c.length) := fun j hj => by
  rw [gt_rev hj, gt_rev (hm _), (mod_rev1 _ h9 j hj).2.2]; exact ⟨rfl, rfl⟩
 refine ⟨h1, h2, fun j hj => ?_, fun i k hi hk hn => ?_⟩
 ·rw [(hs j hj).1, (hs j hj).2]
  exact (h3 _ (mod_rev1 _ h9 j hj).2.1).symm
 ·rw [(hs i hi).1, (hs i hi).2, (hs k hk).1, (hs k hk).2, num_swap, num_swap2]
  obtain ⟨m1, m2⟩ := mod_rev2 _ h9 i hi k hk
  rw [← m2]
  exact h4 _ _ (mod_rev1 _ h9 i hi).2.1 (mod_rev1 _ h9 k hk).2.1 (m1.resolve_left hn)
end Go.Ge

/-
 PLANE GEOMETRY: parities on a ring; edges over a place. Own work.
-/
namespace Go.Ge

/-- the parity of how many -/
def pb (f : Nat → Bool) : Nat → Bool
 | 0 => false
 | n + 1 => pb f n ^^ f n
theorem pb_xor (f g : Nat → Bool) : ∀ n, pb (fun j => f j ^^ g j) n = (pb f n ^^ pb g n)
 | 0 => rfl
 | n + 1 => by
   show (pb (fun j => f j ^^ g j) n ^^ (f n ^^ g n)) = ((pb f n ^^ f n) ^^ (pb g n ^^ g n))
   rw [pb_xor f g n]
   cases pb f n <;> cases pb g n <;> cases f n <;> cases g n <;> rfl
theorem pb_congr {f g : Nat → Bool} : ∀ {n}, (∀ j, j < n → f j = g j) → pb f n = pb g n
 | 0, _ => rfl
 | n + 1, h => by
   show (pb f n ^^ f n) = (pb g n ^^ g n)
   rw [pb_congr fun j hj => h j (by omega), h n (by omega)]
theorem pb_step (h : Nat → Bool) : ∀ m, pb (fun j => h j ^^ h (j + 1)) m = (h 0 ^^ h m)
 | 0 => by simp [pb]
 | m + 1 => by
   show (pb (fun j => h j ^^ h (j + 1)) m ^^ (h m ^^ h (m + 1))) = _
   rw [pb_step h m]
   cases h 0 <;> cases h m <;> cases h (m + 1) <;> rfl
theorem pb_ring (h : Nat → Bool) {n : Nat} (hn : 0 < n) : pb (fun j => h j ^^ h ((j + 1) % n)) n = false := by
 obtain ⟨m, rfl⟩ : ∃ m, n = m + 1 := ⟨n - 1, by omega⟩
 show (pb (fun j => h j ^^ h ((j + 1) % (m + 1))) m ^^ (h m ^^ h ((m + 1) % (m + 1)))) = false
 rw [pb_congr (g := fun j => h j ^^ h (j + 1)) fun j hj => by rw [Nat.mod_eq_of_lt (by omega)], pb_step, Nat.mod_self]
 cases h 0 <;> cases h m <;> rfl
theorem pb_one {e : Nat} {b : Bool} : ∀ {n}, pb (fun j => decide (j = e) && b) n = (decide (e < n) && b)
 | 0 => by simp [pb]
 | n + 1 => by
   show (pb (fun j => decide (j = e) && b) n ^^ (decide (n = e) && b)) = _
   rw [pb_one]
   by_cases h : n = e
   ·subst h; simp
   ·have : (e < n) ↔ (e < n + 1) := by omega
    simp [h, this]
/-- between two places, ends too -/
def cl (a b s : Rat) : Prop := (a ≤ s ∧ s ≤ b) ∨ (b ≤ s ∧ s ≤ a)
def op (a b s : Rat) : Prop := (a < s ∧ s < b) ∨ (b < s ∧ s < a)
instance (a b s : Rat) : Decidable (op a b s) := inferInstanceAs (Decidable (_ ∨ _))
theorem cell {v t A C : Rat} (h1 : A ≠ v) (h2 : A ≠ t) (h3 : C ≠ v) (h4 : C ≠ t) (f : Rat → Bool) (hf : ∀ s1 s2, cl v t s1 → cl v t s2 → cl A C s1 → cl A C s2 → f s1 = f s2) :
  (((decide (A < t) ^^ decide (C < t)) && f t) ^^ ((decide (A < v) ^^ decide (C < v)) && f v)) = ((decide (op v t A) && f A) ^^ (decide (op v t C) && f C)) := by
 have k1 := hf t v
 have k2 := hf t A
 have k3 := hf t C
 have k4 := hf v A
 have k5 := hf v C
 have k6 := hf A C
 unfold cl at *
 unfold op
 by_cases a1 : A < t <;> by_cases a2 : C < t <;> by_cases a3 : A < v <;> by_cases a4 : C < v <;> grind
theorem sgn_pos {x m : Rat} (h : 0 < x) : x * m < 0 ↔ m < 0 := by
 constructor
 ·intro k
  refine Rat.not_le.1 fun h' => ?_
  have := Rat.mul_nonneg (show 0 ≤ x by grind) h'
  grind
 ·intro k
  have := Rat.mul_pos h (show 0 < -m by grind)
  grind
theorem sgn_neg {x m : Rat} (h : x < 0) : x * m < 0 ↔ 0 < m := by
 rw [show x * m = (-x) * (-m) by grind, sgn_pos (show 0 < -x by grind)]; grind
theorem dpos {x m : Rat} (h : 0 < x) : decide (x * m < 0) = decide (m < 0) := decide_eq_decide.2 (sgn_pos h)
theorem dneg {x m : Rat} (h : x < 0) : decide (x * m < 0) = decide (0 < m) := decide_eq_decide.2 (sgn_neg h)
/-- does the second edge from a place lie below the first one, on its side? -/
def tau (v u w m : Rat) : Bool := decide (0 < (u - v) * (w - v)) && decide ((u - v) * m < 0)
theorem cellE {v u w t m : Rat} (ht : op v u t) (hw : w ≠ v) (hwt : w ≠ t) :
  ((decide (v < t) ^^ decide (w < t)) && decide ((t - v) * m < 0)) = ((decide (op v t w) && decide ((w - v) * m < 0)) ^^ tau v u w m) := by
 unfold tau op at *
 rcases ht with ⟨h1, h2⟩ | ⟨h1, h2⟩
 ·rw [dpos (m := m) (show 0 < t - v by grind), dpos (m := m) (show 0 < u - v by grind)]
  by_cases h3 : v < w
  ·have := Rat.mul_pos (show 0 < u - v by grind) (show 0 < w - v by grind)
   rw [dpos (m := m) (show 0 < w - v by grind)]
   by_cases h4 : w < t
   ·simp only [h1, h3, h4, decide_true, this]; grind
   ·simp only [h1, h3, h4, decide_true, this]; grind
  ·have := Rat.mul_pos (show 0 < u - v by grind) (show 0 < v - w by grind)
   simp only [show ¬0 < (u - v) * (w - v) by grind, show w < t by grind, h1]; grind
 ·rw [dneg (m := m) (show t - v < 0 by grind), dneg (m := m) (show u - v < 0 by grind)]
  by_cases h3 : w < v
  ·have := Rat.mul_pos (show 0 < v - u by grind) (show 0 < v - w by grind)
   rw [dneg (m := m) (show w - v < 0 by grind)]
   have h5 : 0 < (u - v) * (w - v) := by grind
   by_cases h4 : w < t
   ·simp only [h4, decide_true, h5]; grind
   ·simp only [h4, h5]; grind
  ·have := Rat.mul_pos (show 0 < v - u by grind) (show 0 < w - v by grind)
   simp only [show ¬0 < (u - v) * (w - v) by grind]; grind
theorem tau_two {v u w m : Rat} (hu : u ≠ v) (hw : w ≠ v) (hm : 0 < (u - v) * (w - v) → m ≠ 0) : (tau v u w m ^^ tau v w u (-m)) = decide (0 < (u - v) * (w - v)) := by
 unfold tau
 rw [show (w - v) * (u - v) = (u - v) * (w - v) by grind]
 by_cases h : 0 < (u - v) * (w - v)
 ·have h0 := hm h
  simp only [h, decide_true, Bool.true_and]
  rcases (show u < v ∨ v < u by grind) with h1 | h1
  ·have h2 : w - v < 0 := by
    refine Rat.not_le.1 fun h' => ?_
    have := Rat.mul_nonneg (show 0 ≤ v - u by grind) h'
    grind
   rw [dneg (m := m) (show u - v < 0 by grind), dneg (m := -m) h2]
   grind
  ·have h2 : 0 < w - v := by
    refine Rat.not_le.1 fun h' => ?_
    have := Rat.mul_nonneg (show 0 ≤ u - v by grind) (show 0 ≤ -(w - v) by grind)
    grind
   rw [dpos (m := m) (show 0 < u - v by grind), dpos (m := -m) h2]
   grind
 ·simp only [h]; rfl
end Go.Ge

/-
 PLANE GEOMETRY: on which side of a ring's edge its inside is: the same for all edges. Own work.
-/
namespace Go.Ge

def nx (n i : Nat) : Nat := (i + 1) % n
/-- a ring without two places above each other -/
structure Sim (g : Nat → Pt) (n : Nat) : Prop where
 three : 3 ≤ n
 ok : ∀ i k p, i < n → k < n → i ≠ k → onS (g i) (g (nx n i)) p → onS (g k) (g (nx n k)) p → (p = g k ∧ nx n i = k) ∨ (p = g i ∧ nx n k = i)
 xs : ∀ i k, i < n → k < n → i ≠ k → (g i).1 ≠ (g k).1
theorem nx_lt {n i : Nat} (h : 3 ≤ n) : nx n i < n := Nat.mod_lt _ (by omega)
theorem nx_ne {n i : Nat} (h : 3 ≤ n) (hi : i < n) : nx n i ≠ i := by
 unfold nx
 by_cases e : i + 1 = n
 ·rw [e, Nat.mod_self]; omega
 ·rw [Nat.mod_eq_of_lt (by omega)]; omega
theorem nx_inj {n i k : Nat} (hi : i < n) (hk : k < n) (h : nx n i = nx n k) : i = k := by
 unfold nx at h
 by_cases e : i + 1 = n
 ·rw [e, Nat.mod_self] at h
  by_cases e2 : k + 1 = n
  ·omega
  ·rw [Nat.mod_eq_of_lt (by omega)] at h; omega
 ·rw [Nat.mod_eq_of_lt (by omega)] at h
  by_cases e2 : k + 1 = n
  ·rw [e2, Nat.mod_self] at h; omega
  ·rw [Nat.mod_eq_of_lt (by omega)] at h; omega
theorem nx_two {n i : Nat} (h : 3 ≤ n) (hi : i < n) : nx n (nx n i) ≠ i := by
 unfold nx
 by_cases e : i + 1 = n
 ·rw [e, Nat.mod_self, Nat.mod_eq_of_lt (by omega)]; omega
 ·rw [Nat.mod_eq_of_lt (show i + 1 < n by omega)]
  by_cases e2 : i + 1 + 1 = n
  ·rw [e2, Nat.mod_self]; omega
  ·rw [Nat.mod_eq_of_lt (by omega)]; omega
section
variable (g : Nat → Pt) (n : Nat)
def slo (i : Nat) : Rat := ((g (nx n i)).2 - (g i).2) / ((g (nx n i)).1 - (g i).1)
/-- the height of an edge at a place -/
def hgt (i : Nat) (t : Rat) : Rat := (g i).2 + (t - (g i).1) * slo g n i
end
variable {g : Nat → Pt} {n : Nat}
theorem slo_eq (h : Sim g n) {i : Nat} (hi : i < n) : slo g n i * ((g (nx n i)).1 - (g i).1) = (g (nx n i)).2 - (g i).2 := by
 have := h.xs _ _ (nx_lt h.three) hi (nx_ne h.three hi)
 unfold slo
 rw [Rat.div_mul_cancel (by grind)]
theorem hgt_lo (i : Nat) : hgt g n i (g i).1 = (g i).2 := by unfold hgt; grind
theorem hgt_hi (h : Sim g n) {i : Nat} (hi : i < n) : hgt g n i (g (nx n i)).1 = (g (nx n i)).2 := by
 have := slo_eq h hi
 unfold hgt; grind
theorem hgt_lin (i : Nat) (s t : Rat) : hgt g n i t = hgt g n i s + (t - s) * slo g n i := by unfold hgt; grind
abbrev clE (g : Nat → Pt) (n i : Nat) (s : Rat) : Prop := cl (g i).1 (g (nx n i)).1 s
theorem on_hgt (h : Sim g n) {i : Nat} (hi : i < n) {s : Rat} (hs : clE g n i s) : onS (g i) (g (nx n i)) (s, hgt g n i s) := by
 have hne := h.xs _ _ (nx_lt h.three) hi (nx_ne h.three hi)
 have e := slo_eq h hi
 have hd : (g (nx n i)).1 - (g i).1 ≠ 0 := by grind
 have e2 : (s - (g i).1) / ((g (nx n i)).1 - (g i).1) * ((g (nx n i)).1 - (g i).1) = s - (g i).1 := Rat.div_mul_cancel hd
 unfold hgt
 generalize slo g n i = m at *
 generalize (s - (g i).1) / ((g (nx n i)).1 - (g i).1) = t at *
 have key : 0 ≤ t ∧ t ≤ 1 := by
  rcases hs with ⟨h1, h2⟩ | ⟨h1, h2⟩
  ·have h3 : 0 < (g (nx n i)).1 - (g i).1 := by grind
   constructor
   ·refine Rat.not_lt.1 fun h' => ?_
    have := Rat.mul_pos (show 0 < -t by grind) h3
    grind
   ·refine Rat.not_lt.1 fun h' => ?_
    have := Rat.mul_pos (show 0 < t - 1 by grind) h3
    grind
  ·have h3 : 0 < (g i).1 - (g (nx n i)).1 := by grind
   constructor
   ·refine Rat.not_lt.1 fun h' => ?_
    have := Rat.mul_pos (show 0 < -t by grind) h3
    grind
   ·refine Rat.not_lt.1 fun h' => ?_
    have := Rat.mul_pos (show 0 < t - 1 by grind) h3
    grind
 exact ⟨t, key.1, key.2, by show s = _; grind, by show _ = _; grind⟩
theorem root {a b : Rat} (ha : 0 < a) (hb : 0 ≤ b) : 0 ≤ a / (a + b) ∧ a / (a + b) ≤ 1 ∧ a / (a + b) * (a + b) = a := by
 have hd : a + b ≠ 0 := by grind
 have e : a / (a + b) * (a + b) = a := Rat.div_mul_cancel hd
 generalize a / (a + b) = t at *
 refine ⟨?_, ?_, e⟩
 ·refine Rat.not_lt.1 fun h' => ?_
  have := Rat.mul_pos (show 0 < -t by grind) (show 0 < a + b by grind)
  grind
 ·refine Rat.not_lt.1 fun h' => ?_
  have := Rat.mul_pos (show 0 < t - 1 by grind) (show 0 < a + b by grind)
  grind
theorem cl_mid {a b s1 s2 t : Rat} (h1 : cl a b s1) (h2 : cl a b s2) (t0 : 0 ≤ t) (t1 : t ≤ 1) : cl a b (s1 + t * (s2 - s1)) := by
 have k : ∀ x y : Rat, x ≤ y → x ≤ x + t * (y - x) ∧ x + t * (y - x) ≤ y := fun x y hxy => by
  have m1 := Rat.mul_nonneg t0 (show 0 ≤ y - x by grind)
  have m2 := Rat.mul_nonneg (show 0 ≤ 1 - t by grind) (show 0 ≤ y - x by grind)
  exact ⟨by grind, by grind⟩
 have k' : ∀ x y : Rat, y ≤ x → y ≤ x + t * (y - x) ∧ x + t * (y - x) ≤ x := fun x y hxy => by
  have m1 := Rat.mul_nonneg t0 (show 0 ≤ x - y by grind)
  have m2 := Rat.mul_nonneg (show 0 ≤ 1 - t by grind) (show 0 ≤ x - y by grind)
  exact ⟨by grind, by grind⟩
 unfold cl at *
 rcases Rat.le_total (a := s1) (b := s2) with h | h
 ·have := k _ _ h; grind
 ·have := k' _ _ h; grind
/-- two edges do not change their places where they have no common end -/
theorem keep1 (h : Sim g n) {i j : Nat} (hi : i < n) (hj : j < n) (hij : i ≠ j) {u v s1 s2 : Rat} (u1 : cl u v s1) (u2 : cl u v s2) (i1 : clE g n i s1) (i2 : clE g n i s2) (j1 : clE g n j s1) (j2 : clE g n j s2)
  (hv : ∀ s, cl u v s → ¬(nx n i = j ∧ s = (g j).1) ∧ ¬(nx n j = i ∧ s = (g i).1)) (hl : hgt g n j s1 < hgt g n i s1) : hgt g n j s2 < hgt g n i s2 := by
 refine Rat.not_le.1 fun hge => ?_
 obtain ⟨t0, t1, te⟩ := root (a := hgt g n i s1 - hgt g n j s1) (b := hgt g n j s2 - hgt g n i s2) (by grind) (by grind)
 generalize (hgt g n i s1 - hgt g n j s1) / (hgt g n i s1 - hgt g n j s1 + (hgt g n j s2 - hgt g n i s2)) = t at *
 have hs := cl_mid u1 u2 t0 t1
 have p1 := on_hgt h hi (cl_mid i1 i2 t0 t1)
 have p2 := on_hgt h hj (cl_mid j1 j2 t0 t1)
 have e1 := hgt_lin (g := g) (n := n) i s1 s2
 have e2 := hgt_lin (g := g) (n := n) j s1 s2
 have e3 := hgt_lin (g := g) (n := n) i s1 (s1 + t * (s2 - s1))
 have e4 := hgt_lin (g := g) (n := n) j s1 (s1 + t * (s2 - s1))
 have e5 : hgt g n j (s1 + t * (s2 - s1)) = hgt g n i (s1 + t * (s2 - s1)) := by grind
 rw [e5] at p2
 obtain ⟨v1, v2⟩ := hv _ hs
 rcases h.ok i j _ hi hj hij p1 p2 with ⟨k1, k2⟩ | ⟨k1, k2⟩
 ·exact v1 ⟨k2, congrArg Prod.fst k1⟩
 ·exact v2 ⟨k2, congrArg Prod.fst k1⟩
theorem keep (h : Sim g n) {i j : Nat} (hi : i < n) (hj : j < n) (hij : i ≠ j) {u v s1 s2 : Rat} (u1 : cl u v s1) (u2 : cl u v s2) (i1 : clE g n i s1) (i2 : clE g n i s2) (j1 : clE g n j s1) (j2 : clE g n j s2)
  (hv : ∀ s, cl u v s → ¬(nx n i = j ∧ s = (g j).1) ∧ ¬(nx n j = i ∧ s = (g i).1)) : hgt g n j s1 < hgt g n i s1 ↔ hgt g n j s2 < hgt g n i s2 :=
 ⟨keep1 h hi hj hij u1 u2 i1 i2 j1 j2 hv, keep1 h hi hj hij u2 u1 i2 i1 j2 j1 hv⟩
/-- is an edge over or under a place? -/
def act (g : Nat → Pt) (n j : Nat) (s : Rat) : Bool := decide ((g j).1 < s) ^^ decide ((g (nx n j)).1 < s)
/-- the parity of the edges under a place -/
def lev (g : Nat → Pt) (n : Nat) (s y : Rat) : Bool := pb (fun j => act g n j s && decide (hgt g n j s < y)) n
theorem level (h : Sim g n) {i e v u w : Nat} (hi : i < n) (he : e < n) (hie : i ≠ e) (iv : (v = i ∧ u = nx n i) ∨ (v = nx n i ∧ u = i)) (ev : (v = e ∧ w = nx n e) ∨ (v = nx n e ∧ w = e))
  {t : Rat} (ht : op (g v).1 (g u).1 t) (hx : ∀ k, k < n → (g k).1 ≠ t) :
  lev g n t (hgt g n i t) = (lev g n (g v).1 (g v).2 ^^ tau (g v).1 (g u).1 (g w).1 (slo g n e - slo g n i)) := by
 have h3 := h.three
 have hni := nx_lt (n := n) (i := i) h3
 have hne := nx_lt (n := n) (i := e) h3
 have hv : v < n := by rcases iv with ⟨rfl, _⟩ | ⟨rfl, _⟩ <;> assumption
 have hu : u < n := by rcases iv with ⟨_, rfl⟩ | ⟨_, rfl⟩ <;> assumption
 have hw : w < n := by rcases ev with ⟨_, rfl⟩ | ⟨_, rfl⟩ <;> assumption
 have hwv : w ≠ v := by
  have := nx_ne h3 he
  rcases ev with ⟨rfl, rfl⟩ | ⟨rfl, rfl⟩
  ·exact this
  ·exact this.symm
 have hiv : hgt g n i (g v).1 = (g v).2 := by
  rcases iv with ⟨rfl, _⟩ | ⟨rfl, _⟩
  ·exact hgt_lo _
  ·exact hgt_hi h hi
 have hev : hgt g n e (g v).1 = (g v).2 := by
  rcases ev with ⟨rfl, _⟩ | ⟨rfl, _⟩
  ·exact hgt_lo _
  ·exact hgt_hi h he
 have hew : hgt g n e (g w).1 = (g w).2 := by
  rcases ev with ⟨_, rfl⟩ | ⟨_, rfl⟩
  ·exact hgt_hi h he
  ·exact hgt_lo _
 have hspan : ∀ s, cl (g v).1 t s → clE g n i s := fun s hs => by
  have k : cl (g v).1 (g u).1 s := by unfold op at ht; unfold cl at *; grind
  rcases iv with ⟨rfl, rfl⟩ | ⟨rfl, rfl⟩
  ·exact k
  ·unfold clE cl at *; grind
 have hout : ¬cl (g v).1 t (g u).1 := by unfold op at ht; unfold cl; grind
 have key : ∀ j, j < n → (((act g n j t && decide (hgt g n j t < hgt g n i t)) ^^ (act g n j (g v).1 && decide (hgt g n j (g v).1 < (g v).2))) ^^ (decide (j = e) && tau (g v).1 (g u).1 (g w).1 (slo g n e - slo g n i))) =
   ((decide (op (g v).1 t (g j).1) && decide ((g j).2 < hgt g n i (g j).1)) ^^ (decide (op (g v).1 t (g (nx n j)).1) && decide ((g (nx n j)).2 < hgt g n i (g (nx n j)).1))) := by
  intro j hj
  have hvout : decide (op (g v).1 t (g v).1) = false := decide_eq_false (by unfold op; grind)
  by_cases ji : j = i
  ·subst ji
   have huout : decide (op (g v).1 t (g u).1) = false := decide_eq_false (by unfold op cl at *; grind)
   rw [hiv, decide_eq_false (show ¬j = e from hie), decide_eq_false (show ¬hgt g n j t < hgt g n j t by grind), decide_eq_false (show ¬(g v).2 < (g v).2 by grind)]
   simp only [Bool.and_false, Bool.false_and, Bool.xor_false]
   rcases iv with ⟨rfl, rfl⟩ | ⟨rfl, rfl⟩
   ·rw [hvout, huout]; rfl
   ·rw [hvout, huout]; rfl
  ·by_cases je : j = e
   ·subst je
    have e1 := hgt_lin (g := g) (n := n) i (g v).1 t
    have e2 := hgt_lin (g := g) (n := n) j (g v).1 t
    have e3 := hgt_lin (g := g) (n := n) i (g v).1 (g w).1
    have e4 := hgt_lin (g := g) (n := n) j (g v).1 (g w).1
    have hc := cellE (v := (g v).1) (u := (g u).1) (w := (g w).1) (t := t) (m := slo g n j - slo g n i) ht (h.xs _ _ hw hv hwv) (hx w hw)
    have p1 : decide (hgt g n j t < hgt g n i t) = decide ((t - (g v).1) * (slo g n j - slo g n i) < 0) := decide_eq_decide.2 (by grind)
    have p2 : decide ((g w).2 < hgt g n i (g w).1) = decide (((g w).1 - (g v).1) * (slo g n j - slo g n i) < 0) := decide_eq_decide.2 (by rw [← hew]; grind)
    have pa : act g n j t = (decide ((g v).1 < t) ^^ decide ((g w).1 < t)) := by
     unfold act
     rcases ev with ⟨rfl, rfl⟩ | ⟨rfl, rfl⟩
     ·rfl
     ·exact Bool.xor_comm ..
    have ph : ((decide (op (g v).1 t (g j).1) && decide ((g j).2 < hgt g n i (g j).1)) ^^ (decide (op (g v).1 t (g (nx n j)).1) && decide ((g (nx n j)).2 < hgt g n i (g (nx n j)).1))) = (decide (op (g v).1 t (g w).1) && decide ((g w).2 < hgt g n i (g w).1)) := by
     rcases ev with ⟨rfl, rfl⟩ | ⟨rfl, rfl⟩
     ·rw [hvout]; simp
     ·rw [hvout]; simp
    rw [ph, pa, p1, p2, hc, hev, decide_eq_false (show ¬(g v).2 < (g v).2 by grind)]
    simp
   ·have jv : j ≠ v := by
     rintro rfl
     rcases iv with ⟨k, _⟩ | ⟨k, _⟩
     ·exact ji k
     ·rcases ev with ⟨k2, _⟩ | ⟨k2, _⟩
      ·exact je k2
      ·exact hie (nx_inj hi he (k.symm.trans k2))
    have nv : nx n j ≠ v := by
     intro hh
     rcases iv with ⟨k, _⟩ | ⟨k, _⟩
     ·rcases ev with ⟨k2, _⟩ | ⟨k2, _⟩
      ·exact hie (k.symm.trans k2)
      ·exact je (nx_inj hj he (hh.trans k2))
     ·exact ji (nx_inj hj hi (hh.trans k))
    have hnj := nx_lt (n := n) (i := j) h3
    have hc := cell (v := (g v).1) (t := t) (A := (g j).1) (C := (g (nx n j)).1) (h.xs _ _ hj hv jv) (hx j hj) (h.xs _ _ hnj hv nv) (hx _ hnj) (fun s => decide (hgt g n j s < hgt g n i s))
     (fun s1 s2 c1 c2 c3 c4 => decide_eq_decide.2 (keep h hi hj (fun k => ji k.symm) c1 c2 (hspan _ c1) (hspan _ c2) c3 c4 fun s hs => ⟨?_, ?_⟩))
    ·rw [hiv] at hc
     simp only [hgt_lo, hgt_hi h hj] at hc
     rw [decide_eq_false je, Bool.false_and, Bool.xor_false]
     exact hc
    ·rintro ⟨k1, k2⟩
     rcases iv with ⟨q1, q2⟩ | ⟨q1, q2⟩
     ·rw [k2, ← k1, ← q2] at hs; exact hout hs
     ·exact jv (k1.symm.trans q1.symm)
    ·rintro ⟨k1, k2⟩
     rcases iv with ⟨q1, q2⟩ | ⟨q1, q2⟩
     ·exact nv (k1.trans q1.symm)
     ·rw [k2, ← q2] at hs; exact hout hs
 have tot := pb_ring (fun k => decide (op (g v).1 t (g k).1) && decide ((g k).2 < hgt g n i (g k).1)) (n := n) (by omega)
 replace tot := (pb_congr key).trans tot
 rw [pb_xor, pb_xor, pb_one, decide_eq_true he, Bool.true_and] at tot
 show pb _ n = (pb _ n ^^ _)
 generalize pb (fun j => act g n j t && decide (hgt g n j t < hgt g n i t)) n = a at *
 generalize pb (fun j => act g n j (g v).1 && decide (hgt g n j (g v).1 < (g v).2)) n = b at *
 generalize tau (g v).1 (g u).1 (g w).1 (slo g n e - slo g n i) = c at *
 cases a <;> cases b <;> cases c <;> simp_all
end Go.Ge

/-
 PLANE GEOMETRY: all edges of a ring have its inside on the same side. Own work.
-/
namespace Go.Ge
variable {g : Nat → Pt} {n : Nat}

/-- a place between two ones that is over none of the ring's -/
theorem free (g : Nat → Pt) : ∀ (n : Nat) {a b : Rat}, a < b → ∃ a' b', a ≤ a' ∧ a' < b' ∧ b' ≤ b ∧ ∀ k, k < n → ∀ t, a' < t → t < b' → (g k).1 ≠ t
 | 0, a, b, h => ⟨a, b, Rat.le_refl, h, Rat.le_refl, fun k hk => absurd hk (by omega)⟩
 | n + 1, a, b, h => by
   obtain ⟨a', b', h1, h2, h3, h4⟩ := free g n h
   by_cases hx : a' < (g n).1 ∧ (g n).1 < b'
   ·refine ⟨a', (g n).1, h1, hx.1, by grind, fun k hk t t1 t2 => ?_⟩
    by_cases e : k = n
    ·subst e; grind
    ·exact h4 k (by omega) t t1 (by grind)
   ·refine ⟨a', b', h1, h2, h3, fun k hk t t1 t2 => ?_⟩
    by_cases e : k = n
    ·subst e; grind
    ·exact h4 k (by omega) t t1 t2
theorem free1 (g : Nat → Pt) (n : Nat) {a b : Rat} (h : a ≠ b) : ∃ t, op a b t ∧ ∀ k, k < n → (g k).1 ≠ t := by
 unfold op
 rcases (show a < b ∨ b < a by grind) with h' | h'
 ·obtain ⟨a', b', h1, h2, h3, h4⟩ := free g n h'
  exact ⟨(a' + b') / 2, .inl ⟨by grind, by grind⟩, fun k hk => h4 k hk _ (by grind) (by grind)⟩
 ·obtain ⟨a', b', h1, h2, h3, h4⟩ := free g n h'
  exact ⟨(a' + b') / 2, .inr ⟨by grind, by grind⟩, fun k hk => h4 k hk _ (by grind) (by grind)⟩
def dr (g : Nat → Pt) (n i : Nat) : Bool := decide ((g i).1 < (g (nx n i)).1)
theorem slo_ne (h : Sim g n) {i : Nat} (hi : i < n) (hs : 0 < ((g i).1 - (g (nx n i)).1) * ((g (nx n (nx n i))).1 - (g (nx n i)).1)) : slo g n (nx n i) - slo g n i ≠ 0 := by
 intro hm
 have h3 := h.three
 have hk := nx_lt (n := n) (i := i) h3
 have hw := nx_lt (n := n) (i := nx n i) h3
 have hki := nx_ne h3 hi
 have hwk := nx_ne h3 hk
 have hwi := nx_two h3 hi
 have x1 := h.xs _ _ hk hi hki
 have x2 := h.xs _ _ hw hk hwk
 have a1 := hgt_hi h hi
 have a2 := hgt_lo (g := g) (n := n) (nx n i)
 have hgg : ∀ s, hgt g n (nx n i) s = hgt g n i s := fun s => by
  have e1 := hgt_lin (g := g) (n := n) i (g (nx n i)).1 s
  have e2 := hgt_lin (g := g) (n := n) (nx n i) (g (nx n i)).1 s
  grind
 have sides : ∀ s, clE g n i s → clE g n (nx n i) s → s ≠ (g (nx n i)).1 → False := fun s c1 c2 hne => by
  have p1 := on_hgt h hi c1
  have p2 := on_hgt h hk c2
  rw [hgg] at p2
  rcases h.ok i (nx n i) _ hi hk hki.symm p1 p2 with ⟨k1, _⟩ | ⟨_, k2⟩
  ·exact hne (congrArg Prod.fst k1)
  ·exact hwi k2
 have p := sides (g i).1
 have q := sides (g (nx n (nx n i))).1
 rcases (show (g i).1 < (g (nx n i)).1 ∨ (g (nx n i)).1 < (g i).1 by grind) with c | c
 ·have c2 : (g (nx n (nx n i))).1 - (g (nx n i)).1 < 0 := by
   refine Rat.not_le.1 fun h' => ?_
   have := Rat.mul_nonneg (show 0 ≤ (g (nx n i)).1 - (g i).1 by grind) h'
   grind
  unfold clE cl at *
  grind
 ·have c2 : 0 < (g (nx n (nx n i))).1 - (g (nx n i)).1 := by
   refine Rat.not_le.1 fun h' => ?_
   have := Rat.mul_nonneg (show 0 ≤ (g i).1 - (g (nx n i)).1 by grind) (show 0 ≤ -((g (nx n (nx n i))).1 - (g (nx n i)).1) by grind)
   grind
  unfold clE cl at *
  grind
theorem same (h : Sim g n) {i : Nat} (hi : i < n) {s t : Rat} (hs : op (g i).1 (g (nx n i)).1 s) (ht : op (g (nx n i)).1 (g (nx n (nx n i))).1 t) (xs : ∀ k, k < n → (g k).1 ≠ s) (xt : ∀ k, k < n → (g k).1 ≠ t) :
  (lev g n s (hgt g n i s) ^^ dr g n i) = (lev g n t (hgt g n (nx n i) t) ^^ dr g n (nx n i)) := by
 have h3 := h.three
 have hk := nx_lt (n := n) (i := i) h3
 have hki := nx_ne h3 hi
 have hw := nx_lt (n := n) (i := nx n i) h3
 have hwk := nx_ne h3 hk
 have x1 := h.xs _ _ hk hi hki
 have x2 := h.xs _ _ hw hk hwk
 have l1 := level h hi hk hki.symm (v := nx n i) (u := i) (w := nx n (nx n i)) (.inr ⟨rfl, rfl⟩) (.inl ⟨rfl, rfl⟩) (t := s) (by unfold op at *; grind) xs
 have l2 := level h hk hi hki (v := nx n i) (u := nx n (nx n i)) (w := i) (.inl ⟨rfl, rfl⟩) (.inr ⟨rfl, rfl⟩) (t := t) ht xt
 have l3 := tau_two (v := (g (nx n i)).1) (u := (g i).1) (w := (g (nx n (nx n i))).1) (m := slo g n (nx n i) - slo g n i) x1.symm x2 (slo_ne h hi)
 rw [show -(slo g n (nx n i) - slo g n i) = slo g n i - slo g n (nx n i) by grind] at l3
 have l4 : (dr g n i ^^ dr g n (nx n i)) = decide (0 < ((g i).1 - (g (nx n i)).1) * ((g (nx n (nx n i))).1 - (g (nx n i)).1)) := by
  unfold dr
  generalize (g i).1 = a at *
  generalize (g (nx n i)).1 = b at *
  generalize (g (nx n (nx n i))).1 = c at *
  rcases (show a < b ∨ b < a by grind) with k1 | k1 <;> rcases (show b < c ∨ c < b by grind) with k2 | k2
  ·have := Rat.mul_pos (show 0 < b - a by grind) (show 0 < c - b by grind)
   simp only [k1, k2, show ¬0 < (a - b) * (c - b) by grind]; rfl
  ·have := Rat.mul_pos (show 0 < b - a by grind) (show 0 < b - c by grind)
   simp only [k1, show ¬b < c by grind, show 0 < (a - b) * (c - b) by grind]; rfl
  ·have := Rat.mul_pos (show 0 < a - b by grind) (show 0 < c - b by grind)
   simp only [k2, show ¬a < b by grind, show 0 < (a - b) * (c - b) by grind]; rfl
  ·have := Rat.mul_pos (show 0 < a - b by grind) (show 0 < b - c by grind)
   simp only [show ¬b < c by grind, show ¬a < b by grind, show ¬0 < (a - b) * (c - b) by grind]; rfl
 rw [l1, l2]
 rw [← l3] at l4
 generalize tau (g (nx n i)).1 (g i).1 (g (nx n (nx n i))).1 (slo g n (nx n i) - slo g n i) = a at *
 generalize tau (g (nx n i)).1 (g (nx n (nx n i))).1 (g i).1 (slo g n i - slo g n (nx n i)) = b at *
 generalize lev g n (g (nx n i)).1 (g (nx n i)).2 = c at *
 generalize dr g n i = d at *
 generalize dr g n (nx n i) = e at *
 cases a <;> cases b <;> cases c <;> cases d <;> cases e <;> simp_all
/-- all edges have the inside on the same side -/
theorem side (h : Sim g n) : ∃ b : Bool, ∀ i, i < n → ∀ t, op (g i).1 (g (nx n i)).1 t → (∀ k, k < n → (g k).1 ≠ t) → (lev g n t (hgt g n i t) ^^ dr g n i) = b := by
 have h3 := h.three
 have hne : ∀ i, i < n → (g i).1 ≠ (g (nx n i)).1 := fun i hi => h.xs _ _ hi (nx_lt h3) (nx_ne h3 hi).symm
 obtain ⟨t0, ht0, hx0⟩ := free1 g n (hne 0 (by omega))
 have hn0 : nx n 0 = 1 := Nat.mod_eq_of_lt (by omega)
 refine ⟨lev g n t0 (hgt g n 0 t0) ^^ dr g n 0, fun i => ?_⟩
 have all : ∀ i, i < n → 0 < i → ∀ t, op (g i).1 (g (nx n i)).1 t → (∀ k, k < n → (g k).1 ≠ t) → (lev g n t (hgt g n i t) ^^ dr g n i) = (lev g n t0 (hgt g n 0 t0) ^^ dr g n 0) := by
  intro i
  induction i with
  | zero => intro _ h0; omega
  | succ i ih =>
    intro hi _ t ht hx
    have e : nx n i = i + 1 := Nat.mod_eq_of_lt hi
    by_cases i0 : i = 0
    ·subst i0
     have := same h (show 0 < n by omega) ht0 (t := t) (by rw [e]; exact ht) hx0 hx
     rw [this, e]
    ·obtain ⟨s, hs, hxs⟩ := free1 g n (hne i (by omega))
     have := same h (show i < n by omega) hs (t := t) (by rw [e]; exact ht) hxs hx
     rw [e] at this
     rw [← this]
     exact ih (by omega) (by omega) s hs hxs
 intro hi t ht hx
 by_cases i0 : i = 0
 ·subst i0
  obtain ⟨s, hs, hxs⟩ := free1 g n (hne 1 (by omega))
  have a := same h (show 0 < n by omega) ht (t := s) (by rw [hn0]; exact hs) hx hxs
  have b := same h (show 0 < n by omega) ht0 (t := s) (by rw [hn0]; exact hs) hx0 hxs
  rw [a, b]
 ·exact all i hi (by omega) t ht hx
end Go.Ge

/-
 PLANE GEOMETRY: a ring over one place: the heights of its edges with their signs. Own work.
-/
namespace Go.Ge
variable {g : Nat → Pt} {n : Nat}

def sg (b : Bool) : Rat := if b then 1 else -1
theorem sg_xor (a b : Bool) : sg (a ^^ b) = -(sg a * sg b) := by cases a <;> cases b <;> (unfold sg; grind)
theorem sg_sq (a : Bool) : sg a * sg a = 1 := by cases a <;> (unfold sg; grind)
/-- the parity of the smaller ones -/
def cp (y : Rat) : List Rat → Bool
 | [] => false
 | z :: l => cp y l ^^ decide (z < y)
/-- a sum with signs -/
def sS (f : Rat → Bool) : List Rat → Rat
 | [] => 0
 | y :: l => sg (f y) * y + sS f l
theorem cp_perm {l k : List Rat} (h : l.Perm k) (y : Rat) : cp y l = cp y k := by
 induction h with
 | nil => rfl
 | cons x _ ih => show (_ ^^ _) = (_ ^^ _); rw [ih]
 | swap a b l => show ((cp y l ^^ _) ^^ _) = ((cp y l ^^ _) ^^ _); cases cp y l <;> cases decide (a < y) <;> cases decide (b < y) <;> rfl
 | trans _ _ h1 h2 => exact h1.trans h2
theorem sS_perm {f : Rat → Bool} {l k : List Rat} (h : l.Perm k) : sS f l = sS f k := by
 induction h with
 | nil => rfl
 | cons x _ ih => show _ + _ = _ + _; rw [ih]
 | swap a b l => show _ + (_ + _) = _ + (_ + _); grind
 | trans _ _ h1 h2 => exact h1.trans h2
theorem sS_congr {f e : Rat → Bool} : ∀ {l : List Rat}, (∀ y ∈ l, f y = e y) → sS f l = sS e l
 | [], _ => rfl
 | y :: l, h => by
   show _ + _ = _ + _
   rw [h y (List.mem_cons_self ..), sS_congr fun z hz => h z (List.mem_cons_of_mem _ hz)]
theorem cp_all {y : Rat} : ∀ {l : List Rat}, (∀ z ∈ l, z < y) → cp y l = decide (l.length % 2 = 1)
 | [], _ => rfl
 | z :: l, h => by
   show (cp y l ^^ decide (z < y)) = _
   rw [cp_all fun w hw => h w (List.mem_cons_of_mem _ hw), decide_eq_true (h z (List.mem_cons_self ..)), List.length_cons]
   by_cases e : l.length % 2 = 1
   ·rw [decide_eq_true e, decide_eq_false (by omega)]; rfl
   ·rw [decide_eq_false e, decide_eq_true (by omega)]; rfl
theorem has_max : ∀ {l : List Rat}, l ≠ [] → ∃ m ∈ l, ∀ z ∈ l, z ≤ m
 | [], h => absurd rfl h
 | [a], _ => ⟨a, List.mem_cons_self .., fun z hz => by rw [List.mem_singleton.1 hz]; exact Rat.le_refl⟩
 | a :: b :: l, _ => by
   obtain ⟨m, h1, h2⟩ := has_max (l := b :: l) (by simp)
   by_cases e : a ≤ m
   ·exact ⟨m, List.mem_cons_of_mem _ h1, fun z hz => by
     rcases List.mem_cons.1 hz with rfl | hz
     ·exact e
     ·exact h2 z hz⟩
   ·exact ⟨a, List.mem_cons_self .., fun z hz => by
     rcases List.mem_cons.1 hz with rfl | hz
     ·exact Rat.le_refl
     ·have := h2 z hz; grind⟩
theorem alt : ∀ (k : Nat) (l : List Rat), l.length = k → l.Nodup →
  (k % 2 = 0 → 0 ≤ sS (fun y => cp y l) l ∧ (l ≠ [] → 0 < sS (fun y => cp y l) l)) ∧ (k % 2 = 1 → ∃ m ∈ l, -m ≤ sS (fun y => cp y l) l)
 | 0, l, hl, _ => by
   obtain rfl := List.length_eq_zero_iff.1 hl
   exact ⟨fun _ => ⟨Rat.le_refl, fun h => absurd rfl h⟩, fun h => absurd h (by decide)⟩
 | k + 1, l, hl, hd => by
   obtain ⟨m, hm, hmax⟩ := has_max (l := l) (fun h => by rw [h] at hl; simp at hl)
   have hp := List.perm_cons_erase hm
   generalize l.erase m = r at hp
   have hd2 := hp.nodup_iff.1 hd
   obtain ⟨hnm, hdr⟩ := List.nodup_cons.1 hd2
   have hr : r.length = k := by have := hp.length_eq; simp at this; omega
   have hlt : ∀ z ∈ r, z < m := fun z hz => by
    have h1 := hmax z (hp.mem_iff.2 (List.mem_cons_of_mem _ hz))
    have h2 : z ≠ m := fun e => hnm (e ▸ hz)
    grind
   have e1 : sS (fun y => cp y l) l = sg (decide (k % 2 = 1)) * m + sS (fun y => cp y r) r := by
    rw [sS_perm hp]
    show sg (cp m l) * m + sS _ r = _
    rw [cp_perm hp]
    show sg (cp m r ^^ decide (m < m)) * m + _ = _
    rw [cp_all hlt, hr, decide_eq_false (show ¬m < m by grind), Bool.xor_false]
    rw [sS_congr (e := fun y => cp y r) fun y hy => by
     show cp y l = cp y r
     rw [cp_perm hp]
     show (cp y r ^^ decide (m < y)) = cp y r
     rw [decide_eq_false (by have := hlt y hy; grind), Bool.xor_false]]
   obtain ⟨i1, i2⟩ := alt k r hr hdr
   rw [e1]
   refine ⟨fun h => ?_, fun h => ?_⟩
   ·obtain ⟨m', hm', hle⟩ := i2 (by omega)
    have := hlt m' hm'
    rw [decide_eq_true (show k % 2 = 1 by omega)]
    unfold sg
    simp only [if_true]
    exact ⟨by grind, fun _ => by grind⟩
   ·obtain ⟨h1, _⟩ := i1 (by omega)
    refine ⟨m, hm, ?_⟩
    rw [decide_eq_false (show ¬k % 2 = 1 by omega)]
    unfold sg
    simp only [Bool.false_eq_true, if_false]
    grind
def sm (f : Nat → Rat) : Nat → Rat
 | 0 => 0
 | n + 1 => sm f n + f n
theorem sm_congr {f e : Nat → Rat} : ∀ {n}, (∀ j, j < n → f j = e j) → sm f n = sm e n
 | 0, _ => rfl
 | n + 1, h => by
   show sm f n + f n = sm e n + e n
   rw [sm_congr fun j hj => h j (by omega), h n (by omega)]
theorem sm_mul (c : Rat) (f : Nat → Rat) : ∀ n, sm (fun j => c * f j) n = c * sm f n
 | 0 => by show (0 : Rat) = c * 0; grind
 | n + 1 => by show sm _ n + _ = c * (sm f n + f n); rw [sm_mul]; grind
theorem sm_sub (f e : Nat → Rat) : ∀ n, sm (fun j => f j - e j) n = sm f n - sm e n
 | 0 => by show (0 : Rat) = 0 - 0; grind
 | n + 1 => by show sm _ n + _ = (sm f n + f n) - (sm e n + e n); rw [sm_sub]; grind
/-- the heights over a place -/
def hs (g : Nat → Pt) (n : Nat) (t : Rat) : Nat → List Rat
 | 0 => []
 | k + 1 => if act g n k t = true then hgt g n k t :: hs g n t k else hs g n t k
theorem hs_cp (t y : Rat) : ∀ k, cp y (hs g n t k) = pb (fun j => act g n j t && decide (hgt g n j t < y)) k
 | 0 => rfl
 | k + 1 => by
   show cp y (if act g n k t = true then hgt g n k t :: hs g n t k else hs g n t k) = (pb (fun j => act g n j t && decide (hgt g n j t < y)) k ^^ (act g n k t && decide (hgt g n k t < y)))
   rw [← hs_cp t y k]
   cases act g n k t
   ·simp
   ·rw [if_pos rfl]; simp [cp]
theorem hs_mem {t y : Rat} : ∀ {k}, y ∈ hs g n t k → ∃ j, j < k ∧ act g n j t = true ∧ y = hgt g n j t
 | 0, h => by cases h
 | k + 1, h => by
   unfold hs at h
   split at h
   ·rename_i ha
    rcases List.mem_cons.1 h with e | h
    ·exact ⟨k, by omega, ha, e⟩
    ·obtain ⟨j, h1, h2⟩ := hs_mem h; exact ⟨j, by omega, h2⟩
   ·obtain ⟨j, h1, h2⟩ := hs_mem h; exact ⟨j, by omega, h2⟩
theorem hs_sum (f : Rat → Bool) (t : Rat) : ∀ k, sS f (hs g n t k) = sm (fun j => if act g n j t = true then sg (f (hgt g n j t)) * hgt g n j t else 0) k
 | 0 => rfl
 | k + 1 => by
   show sS f (if act g n k t = true then hgt g n k t :: hs g n t k else hs g n t k) = sm _ k + (if act g n k t = true then _ else _)
   rw [← hs_sum f t k]
   split
   ·show _ + _ = _ + _; grind
   ·grind
theorem hs_len (t : Rat) : ∀ k, pb (fun j => act g n j t) k = decide ((hs g n t k).length % 2 = 1)
 | 0 => rfl
 | k + 1 => by
   show (pb (fun j => act g n j t) k ^^ act g n k t) = decide ((if act g n k t = true then hgt g n k t :: hs g n t k else hs g n t k).length % 2 = 1)
   rw [hs_len t k]
   cases act g n k t
   ·simp
   ·rw [if_pos rfl, List.length_cons]
    by_cases e : (hs g n t k).length % 2 = 1
    ·rw [decide_eq_true e, decide_eq_false (by omega)]; rfl
    ·rw [decide_eq_false e, decide_eq_true (by omega)]; rfl
theorem act_iff {j : Nat} {t : Rat} (h : (g j).1 ≠ t) (h2 : (g (nx n j)).1 ≠ t) : act g n j t = true ↔ op (g j).1 (g (nx n j)).1 t := by
 unfold act op
 by_cases a : (g j).1 < t <;> by_cases b : (g (nx n j)).1 < t <;> simp only [a, b] <;> grind
theorem hs_nodup (h : Sim g n) {t : Rat} (hx : ∀ k, k < n → (g k).1 ≠ t) : ∀ k, k ≤ n → (hs g n t k).Nodup
 | 0, _ => List.nodup_nil
 | k + 1, hk => by
   have ih := hs_nodup h hx k (by omega)
   unfold hs
   split
   ·rename_i ha
    refine List.nodup_cons.2 ⟨fun hm => ?_, ih⟩
    obtain ⟨j, hj, hja, e⟩ := hs_mem hm
    have h3 := h.three
    have o1 := (act_iff (hx k (by omega)) (hx _ (nx_lt h3))).1 ha
    have o2 := (act_iff (hx j (by omega)) (hx _ (nx_lt h3))).1 hja
    have p1 := on_hgt h (show k < n by omega) (s := t) (by unfold op at o1; unfold clE cl; grind)
    have p2 := on_hgt h (show j < n by omega) (s := t) (by unfold op at o2; unfold clE cl; grind)
    rw [← e] at p2
    rcases h.ok k j _ (by omega) (by omega) (by omega) p1 p2 with ⟨q, _⟩ | ⟨q, _⟩
    ·exact hx j (by omega) (congrArg Prod.fst q).symm
    ·exact hx k (by omega) (congrArg Prod.fst q).symm
   ·exact ih
theorem slab (h : Sim g n) {b : Bool} (hb : ∀ i, i < n → ∀ t, op (g i).1 (g (nx n i)).1 t → (∀ k, k < n → (g k).1 ≠ t) → (lev g n t (hgt g n i t) ^^ dr g n i) = b) {t : Rat} (hx : ∀ k, k < n → (g k).1 ≠ t) :
  ∃ P : Rat, 0 ≤ P ∧ (∀ i, i < n → act g n i t = true → 0 < P) ∧ sm (fun i => if act g n i t = true then sg (dr g n i) * hgt g n i t else 0) n = -(sg b) * P := by
 have h3 := h.three
 have hev := hs_len (g := g) (n := n) t n
 rw [show pb (fun j => act g n j t) n = false from pb_ring (fun k => decide ((g k).1 < t)) (by omega)] at hev
 have hev2 : (hs g n t n).length % 2 = 0 := by have := of_decide_eq_false hev.symm; omega
 obtain ⟨h1, _⟩ := alt _ (hs g n t n) rfl (hs_nodup h hx n (Nat.le_refl _))
 obtain ⟨h2, h4⟩ := h1 hev2
 refine ⟨_, h2, fun i hi ha => h4 fun e => ?_, ?_⟩
 ·have : ∀ k, i < k → hs g n t k ≠ [] := fun k => by
   induction k with
   | zero => intro hk; omega
   | succ k ih =>
     intro hk
     unfold hs
     by_cases e : i = k
     ·subst e; rw [if_pos ha]; simp
     ·split
      ·simp
      ·exact ih (by omega)
  exact this n hi e
 ·rw [hs_sum, ← sm_mul]
  refine sm_congr fun j hj => ?_
  by_cases ha : act g n j t = true
  ·rw [if_pos ha, if_pos ha, hs_cp]
   have := hb j hj t ((act_iff (hx j hj) (hx _ (nx_lt h3))).1 ha) hx
   show _ = -(sg b) * (sg (lev g n t (hgt g n j t)) * hgt g n j t)
   rw [← this, sg_xor]
   have q := sg_sq (lev g n t (hgt g n j t))
   generalize sg (lev g n t (hgt g n j t)) = x at *
   grind
  ·rw [if_neg ha, if_neg ha]; grind
end Go.Ge

/-
 PLANE GEOMETRY: the doubled area of a ring is not 0. Own work.
-/
namespace Go.Ge
variable {g : Nat → Pt} {n : Nat}

def lo (g : Nat → Pt) (n i : Nat) : Rat := if (g i).1 < (g (nx n i)).1 then (g i).1 else (g (nx n i)).1
def hi (g : Nat → Pt) (n i : Nat) : Rat := if (g i).1 < (g (nx n i)).1 then (g (nx n i)).1 else (g i).1
def cm (l h t : Rat) : Rat := if t ≤ l then l else if h ≤ t then h else t
def GG (g : Nat → Pt) (n i : Nat) (s : Rat) : Rat := 2 * (g i).2 * s + slo g n i * ((s - (g i).1) * (s - (g i).1))
/-- the area under an edge up to a place -/
def FF (g : Nat → Pt) (n i : Nat) (t : Rat) : Rat := sg (dr g n i) * GG g n i (cm (lo g n i) (hi g n i) t)
theorem lo_hi (h : Sim g n) {i : Nat} (hi' : i < n) : lo g n i < hi g n i := by
 have := h.xs _ _ hi' (nx_lt h.three) (nx_ne h.three hi').symm
 unfold lo hi
 split
 ·assumption
 ·grind
theorem act_lo (h : Sim g n) {i : Nat} (hi' : i < n) {t : Rat} (hx : ∀ k, k < n → (g k).1 ≠ t) : act g n i t = true ↔ lo g n i < t ∧ t < hi g n i := by
 have h1 := hx i hi'
 have h2 := hx _ (nx_lt (i := i) h.three)
 rw [act_iff h1 h2]
 unfold op lo hi
 split <;> grind
/-- no end between two places -/
def clear (g : Nat → Pt) (n : Nat) (a b : Rat) : Prop := ∀ k, k < n → ¬(a < (g k).1 ∧ (g k).1 < b)
theorem cut_lo (h : Sim g n) {i : Nat} (hi' : i < n) {a b : Rat} (hc : clear g n a b) : ¬(a < lo g n i ∧ lo g n i < b) ∧ ¬(a < hi g n i ∧ hi g n i < b) := by
 have h1 := hc i hi'
 have h2 := hc _ (nx_lt (i := i) h.three)
 unfold lo hi
 split
 ·exact ⟨h1, h2⟩
 ·exact ⟨h2, h1⟩
theorem mid_ne {a b : Rat} (hab : a < b) (hc : clear g n a b) : ∀ k, k < n → (g k).1 ≠ (a + b) / 2 := fun k hk e => hc k hk (by rw [e]; grind)
theorem FF_step (h : Sim g n) {i : Nat} (hi' : i < n) {a b : Rat} (hab : a < b) (hc : clear g n a b) : FF g n i b - FF g n i a = 2 * (b - a) * (if act g n i ((a + b) / 2) = true then sg (dr g n i) * hgt g n i ((a + b) / 2) else 0) := by
 obtain ⟨c1, c2⟩ := cut_lo h hi' hc
 have hl := lo_hi h hi'
 have ha := act_lo h hi' (mid_ne hab hc)
 unfold FF
 by_cases hact : act g n i ((a + b) / 2) = true
 ·obtain ⟨k1, k2⟩ := ha.1 hact
  have e1 : cm (lo g n i) (hi g n i) a = a := by unfold cm; grind
  have e2 : cm (lo g n i) (hi g n i) b = b := by unfold cm; grind
  rw [if_pos hact, e1, e2]
  unfold GG hgt
  grind
 ·rw [if_neg hact]
  have hne := mt ha.2 hact
  have e : cm (lo g n i) (hi g n i) b = cm (lo g n i) (hi g n i) a := by unfold cm; grind
  rw [e]; grind
def Ph (g : Nat → Pt) (n : Nat) (t : Rat) : Rat := sm (fun i => FF g n i t) n
def ct (g : Nat → Pt) (a b : Rat) : Nat → Nat
 | 0 => 0
 | k + 1 => ct g a b k + (if a < (g k).1 ∧ (g k).1 < b then 1 else 0)
theorem ct_le {a b a' b' : Rat} (h1 : a ≤ a') (h2 : b' ≤ b) : ∀ k, ct g a' b' k ≤ ct g a b k
 | 0 => Nat.le_refl _
 | k + 1 => by
   have := ct_le h1 h2 k
   unfold ct
   by_cases h : a' < (g k).1 ∧ (g k).1 < b'
   ·rw [if_pos h, if_pos ⟨by grind, by grind⟩]; omega
   ·rw [if_neg h]; omega
theorem ct_lt {a b a' b' : Rat} (h1 : a ≤ a') (h2 : b' ≤ b) {i : Nat} (hi : a < (g i).1 ∧ (g i).1 < b) (hn : ¬(a' < (g i).1 ∧ (g i).1 < b')) : ∀ k, i < k → ct g a' b' k < ct g a b k
 | 0, h => by omega
 | k + 1, h => by
   unfold ct
   by_cases e : i = k
   ·subst e
    have := ct_le (g := g) h1 h2 i
    rw [if_pos hi, if_neg hn]; omega
   ·have := ct_lt h1 h2 hi hn k (by omega)
    by_cases h : a' < (g k).1 ∧ (g k).1 < b'
    ·rw [if_pos h, if_pos ⟨by grind, by grind⟩]; omega
    ·rw [if_neg h]; omega
theorem ct_zero {a b : Rat} : ∀ {k}, ct g a b k = 0 → ∀ i, i < k → ¬(a < (g i).1 ∧ (g i).1 < b)
 | 0, _, i, h => by omega
 | k + 1, hk, i, h => by
   unfold ct at hk
   by_cases e : i = k
   ·subst e; intro hh; rw [if_pos hh] at hk; omega
   ·exact ct_zero (k := k) (by omega) i (by omega)
theorem ct_pos {a b : Rat} : ∀ {k}, ct g a b k ≠ 0 → ∃ i, i < k ∧ (a < (g i).1 ∧ (g i).1 < b)
 | 0, h => absurd rfl h
 | k + 1, hk => by
   by_cases e : a < (g k).1 ∧ (g k).1 < b
   ·exact ⟨k, by omega, e⟩
   ·unfold ct at hk
    rw [if_neg e] at hk
    obtain ⟨i, h1, h2⟩ := ct_pos (k := k) hk
    exact ⟨i, by omega, h2⟩
theorem strip (h : Sim g n) {s : Bool} (hb : ∀ i, i < n → ∀ t, op (g i).1 (g (nx n i)).1 t → (∀ k, k < n → (g k).1 ≠ t) → (lev g n t (hgt g n i t) ^^ dr g n i) = s) :
  ∀ (m : Nat) (a b : Rat), ct g a b n = m → a < b → ∃ Q : Rat, 0 ≤ Q ∧ (∀ i, i < n → lo g n i < b → a < hi g n i → 0 < Q) ∧ Ph g n b - Ph g n a = -(sg s) * Q := by
 intro m
 induction m using Nat.strongRecOn with
 | ind m ih =>
   intro a b hm hab
   by_cases h0 : m = 0
   ·have hc : clear g n a b := ct_zero (hm.trans h0)
    obtain ⟨P, p1, p2, p3⟩ := slab h hb (mid_ne hab hc)
    have hba : 0 < 2 * (b - a) := by grind
    refine ⟨2 * (b - a) * P, Rat.mul_nonneg (by grind) p1, fun i hi' l1 l2 => Rat.mul_pos hba (p2 i hi' ?_), ?_⟩
    ·obtain ⟨c1, c2⟩ := cut_lo h hi' hc
     exact (act_lo h hi' (mid_ne hab hc)).2 ⟨by grind, by grind⟩
    ·unfold Ph
     rw [← sm_sub, sm_congr fun j hj => FF_step h hj hab hc, sm_mul, p3]
     grind
   ·obtain ⟨i0, hi0, hin⟩ := ct_pos (g := g) (a := a) (b := b) (k := n) (by omega)
    have l1 := ct_lt (g := g) (a := a) (b := b) (a' := a) (b' := (g i0).1) Rat.le_refl (by grind) hin (by grind) n hi0
    have l2 := ct_lt (g := g) (a := a) (b := b) (a' := (g i0).1) (b' := b) (by grind) Rat.le_refl hin (by grind) n hi0
    obtain ⟨Q1, q1, q2, q3⟩ := ih _ (by omega) a (g i0).1 rfl hin.1
    obtain ⟨Q2, r1, r2, r3⟩ := ih _ (by omega) (g i0).1 b rfl hin.2
    refine ⟨Q1 + Q2, by grind, fun i hi' k1 k2 => ?_, by grind⟩
    have hl := lo_hi h hi'
    by_cases hx : lo g n i < (g i0).1
    ·have := q2 i hi' hx k2; grind
    ·have := r2 i hi' k1 (by grind); grind
theorem low (g : Nat → Pt) : ∀ n, ∃ a : Rat, ∀ k, k < n → a < (g k).1
 | 0 => ⟨0, fun k h => absurd h (by omega)⟩
 | n + 1 => by
   obtain ⟨a, h⟩ := low g n
   by_cases e : a < (g n).1
   ·exact ⟨a, fun k hk => by
     by_cases e2 : k = n
     ·subst e2; exact e
     ·exact h k (by omega)⟩
   ·exact ⟨(g n).1 - 1, fun k hk => by
     by_cases e2 : k = n
     ·subst e2; grind
     ·have := h k (by omega); grind⟩
theorem high (g : Nat → Pt) : ∀ n, ∃ a : Rat, ∀ k, k < n → (g k).1 < a
 | 0 => ⟨0, fun k h => absurd h (by omega)⟩
 | n + 1 => by
   obtain ⟨a, h⟩ := high g n
   by_cases e : (g n).1 < a
   ·exact ⟨a, fun k hk => by
     by_cases e2 : k = n
     ·subst e2; exact e
     ·exact h k (by omega)⟩
   ·exact ⟨(g n).1 + 1, fun k hk => by
     by_cases e2 : k = n
     ·subst e2; grind
     ·have := h k (by omega); grind⟩
theorem sm_step (f : Nat → Rat) : ∀ m, sm (fun j => f (j + 1) - f j) m = f m - f 0
 | 0 => by show (0 : Rat) = _; grind
 | m + 1 => by show sm _ m + _ = _; rw [sm_step]; grind
theorem sm_ring (f : Nat → Rat) {n : Nat} (hn : 0 < n) : sm (fun j => f (nx n j) - f j) n = 0 := by
 obtain ⟨m, rfl⟩ : ∃ m, n = m + 1 := ⟨n - 1, by omega⟩
 show sm _ m + (f (nx (m + 1) m) - f m) = 0
 rw [sm_congr (e := fun j => f (j + 1) - f j) fun j hj => by unfold nx; rw [Nat.mod_eq_of_lt (by omega)], sm_step]
 unfold nx
 rw [Nat.mod_self]; grind
/-- the doubled area -/
def area (g : Nat → Pt) (n : Nat) : Rat := sm (fun i => cr (g i) (g (nx n i))) n
theorem area_ne (h : Sim g n) : area g n ≠ 0 := by
 obtain ⟨s, hb⟩ := side h
 have h3 := h.three
 obtain ⟨a, ha⟩ := low g n
 obtain ⟨b, hb'⟩ := high g n
 have hab : a < b := by have := ha 0 (by omega); have := hb' 0 (by omega); grind
 obtain ⟨Q, q1, q2, q3⟩ := strip h hb _ a b rfl hab
 have hends : ∀ i, i < n → a < lo g n i ∧ a < hi g n i ∧ lo g n i < b ∧ hi g n i < b := fun i hi' => by
  have e1 := ha i hi'
  have e2 := ha _ (nx_lt (i := i) h3)
  have e3 := hb' i hi'
  have e4 := hb' _ (nx_lt (i := i) h3)
  unfold lo hi
  split <;> exact ⟨by grind, by grind, by grind, by grind⟩
 have hQ : 0 < Q := q2 0 (by omega) (hends 0 (by omega)).2.2.1 (hends 0 (by omega)).2.1
 have e : Ph g n b - Ph g n a = -(area g n) := by
  unfold Ph area
  rw [← sm_sub]
  have e1 : sm (fun j => FF g n j b - FF g n j a) n = sm (fun j => ((g (nx n j)).1 * (g (nx n j)).2 - (g j).1 * (g j).2) - cr (g j) (g (nx n j))) n := sm_congr fun i hi' => by
   obtain ⟨k1, k2, k3, k4⟩ := hends i hi'
   have hl := lo_hi h hi'
   have hs := slo_eq h hi'
   have e2 : cm (lo g n i) (hi g n i) a = lo g n i := by unfold cm; grind
   have e3 : cm (lo g n i) (hi g n i) b = hi g n i := by unfold cm; grind
   unfold FF
   rw [e2, e3]
   unfold lo hi dr GG sg cr
   split <;> simp_all <;> grind
  rw [e1, sm_sub, sm_ring (fun k => (g k).1 * (g k).2) (by omega)]; grind
 intro h0
 rw [e, h0] at q3
 have q4 := sg_sq s
 have q5 : sg s * Q = 0 := by grind
 have q6 : Q = 0 := by
  have : sg s * (sg s * Q) = 0 := by rw [q5]; grind
  grind
 grind
end Go.Ge

/-
 PLANE GEOMETRY: the doubled area of a ring is not 0: any ring. Own work.
-/
namespace Go.Ge

theorem half {a b c d p : Pt} (h1 : onS a b p) (h2 : ar c d p = 0) (h : 0 ≤ ar c d a * ar c d b) : p = a ∨ p = b ∨ (ar c d a = 0 ∧ ar c d b = 0) := by
 obtain ⟨t, t0, t1, e1, e2⟩ := h1
 have hp : p = (a.1 + t * (b.1 - a.1), a.2 + t * (b.2 - a.2)) := Prod.ext e1 e2
 have hl := ar_line (a := c) (b := d) (c := a) (d := b) (t := t)
 rw [← hp, h2] at hl
 by_cases ht0 : t = 0
 ·left; subst ht0; rw [hp]; exact Prod.ext (by show _ = _; grind) (by show _ = _; grind)
 ·by_cases ht1 : t = 1
  ·right; left; subst ht1; rw [hp]; exact Prod.ext (by show _ = _; grind) (by show _ = _; grind)
  ·right; right
   have p0 : 0 < t := by grind
   have p1 : 0 < 1 - t := by grind
   generalize ar c d a = A at *
   generalize ar c d b = B at *
   have q := Rat.mul_nonneg (Rat.le_of_lt (Rat.mul_pos p0 p1)) h
   have e3 : (1 - t) * A = -(t * B) := by grind
   have e4 : t * (1 - t) * (A * B) = -((t * B) * (t * B)) := by grind
   have e5 : 0 ≤ (t * B) * (t * B) := by
    rcases Rat.le_total (a := 0) (b := t * B) with k | k
    ·exact Rat.mul_nonneg k k
    ·have := Rat.mul_nonneg (show 0 ≤ -(t * B) by grind) (show 0 ≤ -(t * B) by grind); grind
   have e6 : (t * B) * (t * B) = 0 := by grind
   have e7 : t * B = 0 := by rcases Rat.mul_eq_zero.1 e6 with k | k <;> exact k
   have b0 : B = 0 := (Rat.mul_eq_zero.1 e7).resolve_left ht0
   have a0 : A = 0 := (Rat.mul_eq_zero.1 (show (1 - t) * A = 0 by grind)).resolve_left (by grind)
   exact ⟨a0, b0⟩
theorem col_turn {a b c d : Pt} (hcd : c ≠ d) (h1 : ar c d a = 0) (h2 : ar c d b = 0) : ar a b c = 0 ∧ ar a b d = 0 := by
 have k1 : (d.1 - c.1) * ar a b c = 0 := by unfold ar at *; grind
 have k2 : (d.2 - c.2) * ar a b c = 0 := by unfold ar at *; grind
 have k3 : ar a b c = 0 := by
  rcases Rat.mul_eq_zero.1 k1 with e1 | e1
  ·rcases Rat.mul_eq_zero.1 k2 with e2 | e2
   ·exact absurd (Prod.ext (by grind) (by grind)) hcd
   ·exact e2
  ·exact e1
 exact ⟨k3, by unfold ar at *; grind⟩
theorem onS_ar {a b p : Pt} (h : onS a b p) : ar a b p = 0 := (btw_onS.2 h).1
/-- two segments on a line: the ends of what they have in common -/
theorem col_ends {a b c d p : Pt} (h1 : onS a b p) (h2 : onS c d p) (a1 : ar c d a = 0) (a2 : ar c d b = 0) (b1 : ar a b c = 0) (b2 : ar a b d = 0) :
  ∃ x y, x ∈ [a, b, c, d] ∧ y ∈ [a, b, c, d] ∧ (btw a b x ∧ btw c d x) ∧ (btw a b y ∧ btw c d y) ∧ ∀ q, onS a b q → onS c d q → le x q ∧ le q y := by
 have sa : ar a b a = 0 := by unfold ar; grind
 have sb : ar a b b = 0 := by unfold ar; grind
 have sc : ar c d c = 0 := by unfold ar; grind
 have sd : ar c d d = 0 := by unfold ar; grind
 have r : ∀ q, onS a b q → onS c d q → (le (mn a b) q ∧ le q (mx a b)) ∧ (le (mn c d) q ∧ le q (mx c d)) := fun q q1 q2 => ⟨(btw_col (onS_ar q1)).1 (btw_onS.2 q1), (btw_col (onS_ar q2)).1 (btw_onS.2 q2)⟩
 obtain ⟨⟨p1, p2⟩, p3, p4⟩ := r p h1 h2
 have hx : mx (mn a b) (mn c d) = mn a b ∧ le (mn c d) (mn a b) ∨ mx (mn a b) (mn c d) = mn c d ∧ le (mn a b) (mn c d) := by
  rcases mx_cases (mn a b) (mn c d) with ⟨e, l⟩ | ⟨e, l⟩
  ·exact .inr ⟨e, l⟩
  ·exact .inl ⟨e, l⟩
 have hy : mn (mx a b) (mx c d) = mx a b ∧ le (mx a b) (mx c d) ∨ mn (mx a b) (mx c d) = mx c d ∧ le (mx c d) (mx a b) := by
  rcases mn_cases (mx a b) (mx c d) with ⟨e, l⟩ | ⟨e, l⟩
  ·exact .inl ⟨e, l⟩
  ·exact .inr ⟨e, l⟩
 have m1 : mn a b ∈ [a, b, c, d] ∧ ar a b (mn a b) = 0 ∧ ar c d (mn a b) = 0 := by rcases mn_cases a b with ⟨e, _⟩ | ⟨e, _⟩ <;> rw [e] <;> simp [*]
 have m2 : mn c d ∈ [a, b, c, d] ∧ ar a b (mn c d) = 0 ∧ ar c d (mn c d) = 0 := by rcases mn_cases c d with ⟨e, _⟩ | ⟨e, _⟩ <;> rw [e] <;> simp [*]
 have m3 : mx a b ∈ [a, b, c, d] ∧ ar a b (mx a b) = 0 ∧ ar c d (mx a b) = 0 := by rcases mx_cases a b with ⟨e, _⟩ | ⟨e, _⟩ <;> rw [e] <;> simp [*]
 have m4 : mx c d ∈ [a, b, c, d] ∧ ar a b (mx c d) = 0 ∧ ar c d (mx c d) = 0 := by rcases mx_cases c d with ⟨e, _⟩ | ⟨e, _⟩ <;> rw [e] <;> simp [*]
 refine ⟨mx (mn a b) (mn c d), mn (mx a b) (mx c d), ?_, ?_, ?_, ?_, fun q q1 q2 => ?_⟩
 ·rcases hx with ⟨e, _⟩ | ⟨e, _⟩ <;> rw [e]
  ·exact m1.1
  ·exact m2.1
 ·rcases hy with ⟨e, _⟩ | ⟨e, _⟩ <;> rw [e]
  ·exact m3.1
  ·exact m4.1
 ·rcases hx with ⟨e, l⟩ | ⟨e, l⟩ <;> rw [e]
  ·exact ⟨(btw_col m1.2.1).2 ⟨le_refl _, le_trans p1 p2⟩, (btw_col m1.2.2).2 ⟨l, le_trans p1 p4⟩⟩
  ·exact ⟨(btw_col m2.2.1).2 ⟨l, le_trans p3 p2⟩, (btw_col m2.2.2).2 ⟨le_refl _, le_trans p3 p4⟩⟩
 ·rcases hy with ⟨e, l⟩ | ⟨e, l⟩ <;> rw [e]
  ·exact ⟨(btw_col m3.2.1).2 ⟨le_trans p1 p2, le_refl _⟩, (btw_col m3.2.2).2 ⟨le_trans p3 p2, l⟩⟩
  ·exact ⟨(btw_col m4.2.1).2 ⟨le_trans p1 p4, l⟩, (btw_col m4.2.2).2 ⟨le_trans p3 p4, le_refl _⟩⟩
 ·obtain ⟨⟨u1, u2⟩, u3, u4⟩ := r q q1 q2
  constructor
  ·rcases hx with ⟨e, _⟩ | ⟨e, _⟩ <;> rw [e] <;> assumption
  ·rcases hy with ⟨e, _⟩ | ⟨e, _⟩ <;> rw [e] <;> assumption
theorem meet_some {a b c d p : Pt} (hab : a ≠ b) (hcd : c ≠ d) (h1 : onS a b p) (h2 : onS c d p) : meetL a b c d ≠ .apart := by
 intro hap
 have hno : ∀ x ∈ [a, b, c, d], ¬(btw a b x ∧ btw c d x) := fun x hx hb => meetL_some hx hb hap
 have hn := meetL_none hno
 rw [hap] at hn
 have hcol : ∀ (_ : ar c d a = 0) (_ : ar c d b = 0) (_ : ar a b c = 0) (_ : ar a b d = 0), False := fun a1 a2 b1 b2 => by
  obtain ⟨x, _, hx, _, hb, _⟩ := col_ends h1 h2 a1 a2 b1 b2
  exact hno x hx hb
 split at hn
 ·rename_i hc
  rcases hc with k | k
  ·rcases half h1 (onS_ar h2) k with rfl | rfl | ⟨a1, a2⟩
   ·exact hno p (by simp) ⟨btw_onS.2 h1, btw_onS.2 h2⟩
   ·exact hno p (by simp) ⟨btw_onS.2 h1, btw_onS.2 h2⟩
   ·obtain ⟨b1, b2⟩ := col_turn hcd a1 a2
    exact hcol a1 a2 b1 b2
  ·rcases half h2 (onS_ar h1) k with rfl | rfl | ⟨b1, b2⟩
   ·exact hno p (by simp) ⟨btw_onS.2 h1, btw_onS.2 h2⟩
   ·exact hno p (by simp) ⟨btw_onS.2 h1, btw_onS.2 h2⟩
   ·obtain ⟨a1, a2⟩ := col_turn hab b1 b2
    exact hcol a1 a2 b1 b2
 ·cases hn
theorem line_two {a b c d p q : Pt} (hpq : p ≠ q) (p1 : onS a b p) (q1 : onS a b q) (p2 : ar c d p = 0) (q2 : ar c d q = 0) : ar c d a = 0 ∧ ar c d b = 0 := by
 obtain ⟨t, _, _, e1, e2⟩ := p1
 obtain ⟨s, _, _, e3, e4⟩ := q1
 have hp : p = (a.1 + t * (b.1 - a.1), a.2 + t * (b.2 - a.2)) := Prod.ext e1 e2
 have hq : q = (a.1 + s * (b.1 - a.1), a.2 + s * (b.2 - a.2)) := Prod.ext e3 e4
 have l1 := ar_line (a := c) (b := d) (c := a) (d := b) (t := t)
 have l2 := ar_line (a := c) (b := d) (c := a) (d := b) (t := s)
 rw [← hp, p2] at l1
 rw [← hq, q2] at l2
 have hst : s - t ≠ 0 := fun e => hpq (by rw [hp, hq, show s = t by grind])
 generalize ar c d a = A at *
 generalize ar c d b = B at *
 have : (s - t) * (A - B) = 0 := by grind
 have := (Rat.mul_eq_zero.1 this).resolve_left hst
 exact ⟨by grind, by grind⟩
theorem meet_over {a b c d p q : Pt} (hpq : p ≠ q) (p1 : onS a b p) (p2 : onS c d p) (q1 : onS a b q) (q2 : onS c d q) : meetL a b c d = .over := by
 obtain ⟨a1, a2⟩ := line_two hpq p1 q1 (onS_ar p2) (onS_ar q2)
 obtain ⟨b1, b2⟩ := line_two hpq p2 q2 (onS_ar p1) (onS_ar q1)
 obtain ⟨x, y, hx, hy, bx, bY, hall⟩ := col_ends p1 p2 a1 a2 b1 b2
 refine meetL_two hx bx hy bY fun e => hpq ?_
 obtain ⟨u1, u2⟩ := hall p p1 p2
 obtain ⟨v1, v2⟩ := hall q q1 q2
 rw [← e] at u2 v2
 exact (le_antisymm u2 u1).trans (le_antisymm v1 v2)
/-- a ring's edges have only the ends of neighbours in common -/
theorem ring_ok {c : List Pt} (h : chkN c true = 0) {i k : Nat} {p : Pt} (hi : i < c.length) (hk : k < c.length) (hik : i ≠ k) (h1 : onS (gt c i) (gt c (nx c.length i)) p) (h2 : onS (gt c k) (gt c (nx c.length k)) p) :
  (p = gt c k ∧ nx c.length i = k) ∨ (p = gt c i ∧ nx c.length k = i) := by
 obtain ⟨_, _, hne, hcr⟩ := ring_iff.1 h
 have hm := hcr i k hi hk hik
 unfold nmS at hm
 have hs := meet_some (hne i hi) (hne k hk) h1 h2
 have hadj : adj c.length i k = true := by
  cases e : adj c.length i k with
  | true => rfl
  | false =>
    rw [e] at hm
    change (meetL (gt c i) (gt c (nx c.length i)) (gt c k) (gt c (nx c.length k))).num ≤ 0 at hm
    change meetL (gt c i) (gt c (nx c.length i)) (gt c k) (gt c (nx c.length k)) ≠ .apart at hs
    cases e2 : meetL (gt c i) (gt c (nx c.length i)) (gt c k) (gt c (nx c.length k)) with
    | apart => exact absurd e2 hs
    | over => rw [e2] at hm; simp [Mt.num] at hm
    | touch x => rw [e2] at hm; simp [Mt.num] at hm
 have hno : meetL (gt c i) (gt c (nx c.length i)) (gt c k) (gt c (nx c.length k)) ≠ .over := fun e => by
  change (meetL (gt c i) (gt c (nx c.length i)) (gt c k) (gt c (nx c.length k))).num ≤ _ at hm
  rw [e, hadj] at hm
  simp [Mt.num] at hm
 unfold adj at hadj
 simp only [Bool.or_eq_true, decide_eq_true_eq] at hadj
 rcases hadj with e | e
 ·left
  refine ⟨Classical.byContradiction fun hp => hno (meet_over hp h1 h2 ?_ (onS_left _ _)), e⟩
  rw [show nx c.length i = k from e]; exact onS_right _ _
 ·right
  refine ⟨Classical.byContradiction fun hp => hno (meet_over hp h1 h2 (onS_left _ _) ?_), e⟩
  rw [show nx c.length k = i from e]; exact onS_right _ _
/-- places moved aside by their height -/
def shr (e : Rat) (p : Pt) : Pt := (p.1 + e * p.2, p.2)
theorem shr_cr (e : Rat) (p q : Pt) : cr (shr e p) (shr e q) = cr p q := by unfold cr shr; grind
theorem shr_on {e : Rat} {a b q : Pt} (h : onS (shr e a) (shr e b) q) : onS a b (q.1 - e * q.2, q.2) := by
 obtain ⟨t, t0, t1, e1, e2⟩ := h
 unfold shr at e1 e2
 exact ⟨t, t0, t1, by show _ = _; grind, e2⟩
theorem shear (g : Nat → Pt) (n : Nat) (hne : ∀ i k, i < n → k < n → i ≠ k → g i ≠ g k) : ∃ e : Rat, ∀ i k, i < n → k < n → i ≠ k → (shr e (g i)).1 ≠ (shr e (g k)).1 := by
 have h1 : ∀ i, ∃ e : Rat, ∀ k, k < n → ((g k).1 - (g i).1) / ((g i).2 - (g k).2) < e := fun i => high (fun k => (((g k).1 - (g i).1) / ((g i).2 - (g k).2), 0)) n
 obtain ⟨e, he⟩ := high (fun i => ((h1 i).choose, 0)) n
 refine ⟨e, fun i k hi hk hik heq => hne i k hi hk hik ?_⟩
 have b1 := (h1 i).choose_spec k hk
 have b2 : (h1 i).choose < e := he i hi
 unfold shr at heq
 have e3 : e * ((g i).2 - (g k).2) = (g k).1 - (g i).1 := by
  have : (g i).1 + e * (g i).2 = (g k).1 + e * (g k).2 := heq
  grind
 by_cases hy : (g i).2 - (g k).2 = 0
 ·rw [hy] at e3
  exact Prod.ext (by grind) (by grind)
 ·have : ((g k).1 - (g i).1) / ((g i).2 - (g k).2) * ((g i).2 - (g k).2) = (g k).1 - (g i).1 := Rat.div_mul_cancel hy
  have h5 : (e - ((g k).1 - (g i).1) / ((g i).2 - (g k).2)) * ((g i).2 - (g k).2) = 0 := by grind
  have := (Rat.mul_eq_zero.1 h5).resolve_right hy
  grind
theorem ring_area {c : List Pt} (h : chkN c true = 0) : area (gt c) c.length ≠ 0 := by
 obtain ⟨h3, _⟩ := ring_iff.1 h
 obtain ⟨e, he⟩ := shear (gt c) c.length fun i k hi hk hik e => hik (ring_gt h hi hk e)
 have hs : Sim (fun i => shr e (gt c i)) c.length := ⟨h3, fun i k p hi hk hik p1 p2 => by
  have hback : ∀ q : Pt, (p.1 - e * p.2, p.2) = q → p = shr e q := fun q hq => by rw [← hq]; unfold shr; exact Prod.ext (by show _ = _; grind) rfl
  rcases ring_ok h hi hk hik (shr_on p1) (shr_on p2) with ⟨k1, k2⟩ | ⟨k1, k2⟩
  ·exact .inl ⟨hback _ k1, k2⟩
  ·exact .inr ⟨hback _ k1, k2⟩, he⟩
 have := area_ne hs
 unfold area at this ⊢
 simpa only [shr_cr] using this
end Go.Ge

/-
 PLANE GEOMETRY: the area as a list; a ring is a chain; places on a ring. Own work.
-/
namespace Go.Ge

theorem sm_head (f : Nat → Rat) : ∀ n, sm f (n + 1) = f 0 + sm (fun i => f (i + 1)) n
 | 0 => by show (0 : Rat) + f 0 = f 0 + 0; grind
 | n + 1 => by
   show sm f (n + 1) + f (n + 1) = f 0 + (sm (fun i => f (i + 1)) n + f (n + 1))
   rw [sm_head f n]; grind
theorem path_sm : ∀ (l : List Pt), path l = sm (fun i => cr (gt l i) (gt l (i + 1))) (l.length - 1)
 | [] => rfl
 | [a] => rfl
 | a :: b :: m => by
   show cr a b + path (b :: m) = _
   rw [path_sm (b :: m), show (a :: b :: m).length - 1 = m.length + 1 from rfl, sm_head]
   rfl
theorem gt_app {l m : List Pt} {i : Nat} (h : i < l.length) : gt (l ++ m) i = gt l i := by
 refine gt_get ?_
 rw [List.getElem?_append_left h]; exact gt_eq h
theorem cyc_area : ∀ {c : List Pt}, c ≠ [] → cyc c = area (gt c) c.length
 | [], h => absurd rfl h
 | a :: l, _ => by
   rw [cyc_path, path_sm]
   unfold area
   have e : (a :: l ++ [a]).length - 1 = (a :: l).length := by simp
   rw [e]
   refine sm_congr fun i hi => ?_
   rw [gt_app hi]
   unfold nx
   by_cases h : i + 1 = (a :: l).length
   ·rw [h, Nat.mod_self]
    have : gt (a :: l ++ [a]) (a :: l).length = gt (a :: l) 0 := gt_get (by rw [List.getElem?_append_right (Nat.le_refl _), Nat.sub_self]; rfl)
    rw [this]
   ·rw [gt_app (by omega), Nat.mod_eq_of_lt (by omega)]
theorem ring_cyc {c : List Pt} (h : chkN c true = 0) : cyc c ≠ 0 := by
 have h3 := (ring_iff.1 h).1
 rw [cyc_area (by intro e; rw [e] at h3; simp at h3)]
 exact ring_area h
/-- a ring is a chain -/
theorem ring_chain {c : List Pt} (h : chkN c true = 0) : chkN c false = 0 := by
 obtain ⟨h3, h4, hd, hx⟩ := ring_parts h
 unfold chkN segs
 simp only [Bool.false_eq_true, if_false]
 rw [if_neg (by omega), if_neg (by omega), if_neg, if_neg]
 ·intro hc
  obtain ⟨i, k, hik, hk, hcr⟩ := crs_iff.1 hc
  refine hx (crs_iff.2 ⟨i, k, hik, by omega, ?_⟩)
  have e : next c.length (c.length - 1) i k ↔ next c.length c.length i k := by unfold next; omega
  unfold crossP at hcr ⊢
  generalize meetP (gt c i) (gt c ((i + 1) % c.length)) (gt c k) (gt c ((k + 1) % c.length)) = m at hcr ⊢
  cases m with
  | apart => exact hcr
  | over => trivial
  | touch p => simp only [e] at hcr; exact hcr
 ·intro hc
  obtain ⟨j, hj, e⟩ := dbl_iff.1 hc
  exact hd (dbl_iff.2 ⟨j, by omega, e⟩)
end Go.Ge
