/-
 OWN ROWS of pairs of strings, read as data. Own work.
-/
import Derived.Test.YtkfmblmamoofjaaGreatDoorPj
import Derived.Deep.AppendLies
import Derived.Test.YtkfmblmamoofjaaGreatDoorEd
set_option linter.unusedVariables false
set_option linter.unusedSimpArgs false
namespace Go.Pi
open Go Go.RowKit

section
variable {α : Type} (f g : α → List UInt8)
/-- the cells of a pair, and its data -/
def enc2 (x : α) : List Value := [.string ⟨(f x).toArray⟩, .string ⟨(g x).toArray⟩]
def dat2 (x : α) : List D := [.str (f x), .str (g x)]
def cel2 (l : List α) : List Value := l.flatMap (enc2 f g)
theorem cel2_len (l : List α) : (cel2 f g l).length = l.length * 2 := by
 induction l with
 | nil => rfl
 | cons x l ih => show (enc2 f g x ++ cel2 f g l).length = _; rw [List.length_append, ih, List.length_cons]; show 2 + _ = _; omega
theorem cel2_at : ∀ {l : List α} {k : Nat} {x : α}, l[k]? = some x → (cel2 f g l)[k * 2]? = some (.string ⟨(f x).toArray⟩) ∧ (cel2 f g l)[k * 2 + 1]? = some (.string ⟨(g x).toArray⟩)
 | y :: l, 0, x, h => by cases h; exact ⟨rfl, rfl⟩
 | y :: l, k + 1, x, h => by
   have ih := cel2_at (l := l) (k := k) (x := x) (by simpa using h)
   have e : ∀ j, (cel2 f g (y :: l))[j + 2]? = (cel2 f g l)[j]? := fun j => rfl
   rw [show (k + 1) * 2 = k * 2 + 2 by omega, show k * 2 + 2 + 1 = k * 2 + 1 + 2 by omega, e, e]
   exact ih
theorem cel2_app (l m : List α) : cel2 f g (l ++ m) = cel2 f g l ++ cel2 f g m := List.flatMap_append
theorem cel2_take (l : List α) (k : Nat) (h : k ≤ l.length) : (cel2 f g l).take (k * 2) = cel2 f g (l.take k) := by
 conv => lhs; rw [← List.take_append_drop k l, cel2_app]
 rw [List.take_left' (by rw [cel2_len, List.length_take]; omega)]
theorem cel2_drop (l : List α) (k : Nat) (h : k ≤ l.length) : (cel2 f g l).drop (k * 2) = cel2 f g (l.drop k) := by
 conv => lhs; rw [← List.take_append_drop k l, cel2_app]
 rw [List.drop_left' (by rw [cel2_len, List.length_take]; omega)]
theorem cel2_one (l : List α) : ∀ u ∈ cel2 f g l, u.oneCell' = true := by
 intro u hu
 obtain ⟨x, _, hx⟩ := List.mem_flatMap.1 hu
 simp only [enc2, List.mem_cons, List.not_mem_nil, or_false] at hx
 rcases hx with rfl | rfl <;> rfl
variable {f g}
/-- an own row read as data -/
theorem rep_own2 {W : World} {S : Nat → Nat → Prop} {base e : Nat} {v : Value} {l : List α} (h : W.ownsRow base e 2 v l.length (cel2 f g l)) (hl : ∀ y ∈ l, (f y).length ≤ maxLen ∧ (g y).length ≤ maxLen) (hS : ∀ b j, base ≤ b → b < W.heap.size → S b j) :
  Rep S W (.sl l.length (l.flatMap (dat2 f g))) v := by
 have hr : ∀ (i : Nat) (d : D) (u : Value), (l.flatMap (dat2 f g))[i]? = some d → (cel2 f g l)[i]? = some u → Rep S W d u := by
  clear h
  induction l with
  | nil => intro i d u hd; simp at hd
  | cons x l ih =>
    obtain ⟨h1, h2⟩ := hl x (List.mem_cons_self ..)
    intro i d u hd hu
    match i with
    | 0 => cases hd; cases hu; exact .str _ h1
    | 1 => cases hd; cases hu; exact .str _ h2
    | i + 2 => exact ih (fun y hy => hl y (List.mem_cons_of_mem _ hy)) i d u hd hu
 have hlen : (l.flatMap (dat2 f g)).length = l.length * 2 := by
  clear h hr hl
  induction l with
  | nil => rfl
  | cons x l ih => rw [List.flatMap_cons, List.length_append, ih, List.length_cons]; show 2 + _ = _; omega
 have h1 : ∀ d ∈ l.flatMap (dat2 f g), d.one = true := by
  intro d hd
  obtain ⟨x, _, hx⟩ := List.mem_flatMap.1 hd
  simp only [dat2, List.mem_cons, List.not_mem_nil, or_false] at hx
  rcases hx with rfl | rfl <;> rfl
 rcases h.2 with ⟨rfl, h0⟩ | ⟨b, cap, cur, rfl, hbg, hg, hn, hc, _, _⟩
 ·obtain rfl : l = [] := List.length_eq_zero_iff.1 h0
  exact .sl0 none 0 (Nat.zero_le _)
 ·refine .sl l.length (l.flatMap (dat2 f g)) b 0 cap (cel2 f g l) (by rw [hlen, cel2_len]) h1 hn hc (fun i u hu => ⟨hS b _ hbg (Array.getElem?_eq_some_iff.1 hg).1, ?_⟩) hr
  have hlt := (List.getElem?_eq_some_iff.1 hu).1
  rw [cel2_len] at hlt
  rw [Nat.zero_add, h.cellAt i hlt]; exact hu
end
section
variable {α : Type} {f g : α → List UInt8}
theorem reps_cel2 {S : Nat → Nat → Prop} {w : World} : ∀ {l : List α} {vs : List Value}, Reps S w (l.flatMap (dat2 f g)) vs → vs = cel2 f g l
 | [], vs, h => by
   have := h.1
   exact List.length_eq_zero_iff.1 this.symm
 | x :: l, vs, h => by
   obtain ⟨v1, r1, rfl, h1, t1⟩ := Reps.uncons (ds := .str (g x) :: l.flatMap (dat2 f g)) (show Reps S w (.str (f x) :: .str (g x) :: l.flatMap (dat2 f g)) vs from h)
   obtain ⟨v2, r2, rfl, h2, t2⟩ := t1.uncons
   have e1 := h1.str_inv.1
   have e2 := h2.str_inv.1
   rw [reps_cel2 t2]
   subst e1; subst e2
   rfl
/-- an own slice that a contract returns is an own row -/
theorem own_of_res {P : Program} {S : Nat → Nat → Prop} {w w' : World} {e : TypeId} {l : List α} {v : Value} (hc : P.cellsOf e = 2) (h : Res P S w w' (.own true e l.length (l.flatMap (dat2 f g))) v) : w'.ownsRow w.heap.size e 2 v l.length (cel2 f g l) := by
 obtain ⟨ob, h1, h2⟩ := h
 simp only [OwnR] at h2
 refine ⟨cel2_len f g l, ?_⟩
 rcases h2 with ⟨_, rfl, h3, _⟩ | ⟨b, cap, arr, rfl, rfl, h3, h4, h5, h6, h7, h8, _⟩
 ·exact .inl ⟨rfl, h3⟩
 ·rw [hc] at h6 h8
  exact .inr ⟨b, cap, arr, rfl, (h1 b rfl).1, h3, h4, h5, h6, reps_cel2 h8⟩
end
/-- a longer row in the same block -/
theorem own_more {W : World} {base e sz b m n cap : Nat} {xs : List Value} (h : W.ownsRow base e sz (.slice (some ⟨b, 0, none⟩) m cap) m xs) (h1 : m ≤ n) (h2 : n ≤ cap) : ∃ ys, W.ownsRow base e sz (.slice (some ⟨b, 0, none⟩) n cap) n (xs ++ ys) := by
 rcases h.2 with ⟨h', _⟩ | ⟨b', cap', cur, h', hbg, hg, hmc, hcm, hcs, htk⟩
 ·simp at h'
 ·simp only [Value.slice.injEq, Option.some.injEq, Addr.mk.injEq, and_true, true_and] at h'
  obtain ⟨rfl, rfl⟩ := h'
  have e1 : cur.toList.take (n * sz) = xs ++ (cur.toList.take (n * sz)).drop (m * sz) := by
   conv => lhs; rw [← List.take_append_drop (m * sz) (cur.toList.take (n * sz))]
   rw [List.take_take, Nat.min_eq_left (Nat.mul_le_mul_right _ h1), htk]
  refine ⟨(cur.toList.take (n * sz)).drop (m * sz), ?_, .inr ⟨b, cap, cur, rfl, hbg, hg, h2, hcm, hcs, e1⟩⟩
  rw [← e1, List.length_take, Array.length_toList, hcs, Nat.min_eq_left (Nat.mul_le_mul_right _ h2)]
/-- a shorter row in the same block -/
theorem own_less {W : World} {base e sz b m n cap : Nat} {xs : List Value} (h : W.ownsRow base e sz (.slice (some ⟨b, 0, none⟩) n cap) n xs) (h1 : m ≤ n) : W.ownsRow base e sz (.slice (some ⟨b, 0, none⟩) m cap) m (xs.take (m * sz)) := by
 have hx := h.1
 rcases h.2 with ⟨h', _⟩ | ⟨b', cap', cur, h', hbg, hg, hmc, hcm, hcs, htk⟩
 ·simp at h'
 ·simp only [Value.slice.injEq, Option.some.injEq, Addr.mk.injEq, and_true, true_and] at h'
  obtain ⟨rfl, rfl⟩ := h'
  refine ⟨by rw [List.length_take, hx, Nat.min_eq_left (Nat.mul_le_mul_right _ h1)], .inr ⟨b, cap, cur, rfl, hbg, hg, by omega, hcm, hcs, ?_⟩⟩
  rw [← htk, List.take_take, Nat.min_eq_left (Nat.mul_le_mul_right _ h1)]
end Go.Pi
namespace Go.Pi
open Go Go.RowKit
variable {P : Program}
/-- an append that fits, at a step of a region whose order is open -/
theorem step_append_fits (w : World) {ops : Array Oper} {o : Oper} {a : Act} {K : Act → World → Prop} {Q : Exit → Act → World → Prop} {E : Prop} (hgd : o.guard = none) (s x : Operand) (t : TypeId)
  (ho : o.op = .call { callee := .builtin .append, args := #[s, x], argTypes := #[t, t] })
  (base : Nat) (e : TypeId) (i : TypeInfo) (size : Nat) (ht : P.underlying t = some (.slice e)) (hi : P.info? e = some i) (hsize : i.size = size)
  (g n cap : Nat) (xs : List Value) (hs : a.eval s = .slice (some ⟨g, 0, none⟩) n cap) (hown : w.ownsRow base e size (.slice (some ⟨g, 0, none⟩) n cap) n xs)
  (ad : Addr) (m c : Nat) (news : List Value) (hx : a.eval x = .slice (some ad) m c) (hl : news.length = m * size) (hnews : ∀ j u, news[j]? = some u → w.cell? (ad.add j) = some u) (h1 : ∀ u ∈ news, u.oneCell' = true)
  (hroom : n + m ≤ cap)
  (h : ∀ w', w'.ownsRow base e size (.slice (some ⟨g, 0, none⟩) (n + m) cap) (n + m) (xs ++ news) → w.grownBy w' (some g) → K (a.put o.dst (.slice (some ⟨g, 0, none⟩) (n + m) cap)) w') :
  if Region.wanted o (yielded ops a.tmps) = true then Oper.wp P o a w K Q else E := by
 have hw : Region.wanted o (yielded ops a.tmps) = true := by simp [Region.wanted, hgd]
 rw [if_pos hw]
 obtain ⟨w', hr, h2, h3⟩ := run_append_fits (P := P) w base t o.type e i size ht hi hsize g n cap xs hown ad m c news hl hnews h1 hroom
 unfold Oper.wp execOp
 simp only [ho, resolve, invoke, builtin, Sem.run_bind, Sem.run_pure, Result.andThen_ok, List.map_toArray, List.map_cons, List.map_nil, hs, hx, hr]
 exact h w' h2 h3
/-- clear(s[i:]) of an own row -/
theorem clear_row2 {w : World} {t e base n cap g i : Nat} {xs : List Value} {z : Value} (ht : P.underlying t = some (.slice e)) (hv : ∀ w, (zeroValue e).run P w = .ok z w) (hz : z.cells.size = 2) (hz1 : ∀ u ∈ z.cells, u.oneCell' = true)
  (h : w.ownsRow base e 2 (.slice (some ⟨g, 0, none⟩) n cap) n xs) (hi : i < n) :
  ∃ w', (∀ ty c, (Builtin.clear_ #[t] ty #[.slice (some ⟨g, i * 2, none⟩) (n - i) c]).run P w = .ok (.tuple #[]) w') ∧ w'.ownsRow base e 2 (.slice (some ⟨g, 0, none⟩) i cap) i (xs.take (i * 2)) ∧ w.grownBy w' (some g) := by
 have hxl := h.1
 rcases h.2 with ⟨h1, _⟩ | ⟨g', cap', cur, h1, hbg, hg, hnc, hcm, hcs, htk⟩
 ·simp at h1
 ·simp only [Value.slice.injEq, Option.some.injEq, Addr.mk.injEq, and_true, true_and] at h1
  obtain ⟨rfl, rfl⟩ := h1
  have hzs : (Builtin.zeroCells z.cells (n - i)).size = (n - i) * 2 := by rw [size_zeroCells, hz]
  have hfit : i * 2 + 0 + (Builtin.zeroCells z.cells (n - i)).toList.length ≤ cur.size := by rw [Array.length_toList, hzs, hcs]; omega
  have hone : ∀ u ∈ (Builtin.zeroCells z.cells (n - i)).toList, u.oneCell' = true := fun u hu => by
   obtain ⟨q, hq⟩ := List.getElem?_of_mem hu
   simp [Builtin.zeroCells, Array.getElem?_ofFn] at hq
   obtain ⟨hq1, _, rfl⟩ := hq
   have hlt : hq1 % z.cells.size < z.cells.size := Nat.mod_lt _ (by omega)
   rw [getElem!_pos z.cells _ hlt]
   exact hz1 _ (Array.getElem_mem hlt)
  have hex := run_storeCells_at P g (i * 2) e (Builtin.zeroCells z.cells (n - i)).toList 0 cur w hg hfit hone
  simp only [Nat.add_zero] at hex
  generalize hnew : (cur.toList.take (i * 2) ++ (Builtin.zeroCells z.cells (n - i)).toList ++ cur.toList.drop (i * 2 + (Builtin.zeroCells z.cells (n - i)).toList.length)).toArray = arr at hex
  have hnl : arr.toList = cur.toList.take (i * 2) ++ ((Builtin.zeroCells z.cells (n - i)).toList ++ cur.toList.drop (i * 2 + (Builtin.zeroCells z.cells (n - i)).toList.length)) := by rw [← hnew]; simp
  have e1 : (cur.toList.take (i * 2)).length = i * 2 := by rw [List.length_take, Array.length_toList]; omega
  refine ⟨w.setRow g arr, fun ty c => ?_, ⟨?_, .inr ⟨g, cap, arr, rfl, hbg, setRow_heap w g cur arr e (0, 0) hg, by omega, hcm, ?_, ?_⟩⟩, ⟨rfl, rfl, rfl, by simp, fun k _ hk => setRow_other w g k arr (fun e => hk (by simp [e]))⟩⟩
  ·obtain ⟨q, hq⟩ : ∃ q, n - i = q + 1 := ⟨n - i - 1, by omega⟩
   rw [hq] at hex ⊢
   simp [Builtin.clear_, run_underlying ht, hv, hex]
  ·rw [List.length_take]; omega
  ·have := congrArg List.length hnl
   rw [List.length_append, List.length_append, e1, List.length_drop, Array.length_toList, Array.length_toList, Array.length_toList] at this
   simp only [Array.length_toList] at hfit
   omega
  ·rw [hnl, List.take_left' e1, ← htk, List.take_take, Nat.min_eq_left (by omega)]
end Go.Pi
namespace Go.Pi
open Go Go.RowKit
theorem gr_trans {a b c : World} {r : Option Nat} (h : a.grownBy b r) (h2 : b.grownBy c r) : a.grownBy c r :=
 ⟨h2.os.trans h.os, h2.tape.trans h.tape, h2.output.trans h.output, Nat.le_trans h.size h2.size, fun k hk hn => (h2.block k (Nat.lt_of_lt_of_le hk h.size) hn).trans (h.block k hk hn)⟩
theorem gr_below {a b : World} {r : Option Nat} (h : Below a.heap.size a b) : a.grownBy b r := ⟨h.os, h.tape, h.output, h.size, fun k hk _ => h.block k hk⟩
theorem gr_self (a : World) {r : Option Nat} : a.grownBy a r := ⟨rfl, rfl, rfl, Nat.le_refl _, fun _ _ _ => rfl⟩
theorem gr_drew {a b : World} {r : Option Nat} (h : a.grownBy b r) : a.grownBy b.drew r := ⟨h.os, h.tape, h.output, h.size, h.block⟩
end Go.Pi
namespace Go.Pi
open Go Go.RowKit
theorem own_base {w : World} {base base' e sz : Nat} {v : Value} {n : Nat} {xs : List Value} (h : w.ownsRow base e sz v n xs) (hle : base' ≤ base) : w.ownsRow base' e sz v n xs := by
 refine ⟨h.1, ?_⟩
 rcases h.2 with h1 | ⟨g, cap, cur, h1, h2, h3⟩
 ·exact .inl h1
 ·exact .inr ⟨g, cap, cur, h1, Nat.le_trans hle h2, h3⟩
/-- a pair of strings as an argument -/
theorem rep_pair (S : Nat → Nat → Prop) (W : World) (a b : List UInt8) (h1 : a.length ≤ maxLen) (h2 : b.length ≤ maxLen) : Rep S W (.agg [.str a, .str b]) (.agg #[.string ⟨a.toArray⟩, .string ⟨b.toArray⟩]) := by
 refine Rep.agg [.str a, .str b] [.string ⟨a.toArray⟩, .string ⟨b.toArray⟩] rfl (by simp [D.one]) fun i d v hd hv => ?_
 match i with
 | 0 => cases hd; cases hv; exact .str _ h1
 | 1 => cases hd; cases hv; exact .str _ h2
 | i + 2 => simp at hd
end Go.Pi

/-
 SPLITTING a chain, plain: the parts between places in order, and the way that looks for the next place. Own work.
-/
namespace Go.Sp

/-- a total order -/
structure Tot {α : Type} (r : α → α → Prop) : Prop where
 refl : ∀ a, r a a
 trans : ∀ {a b c}, r a b → r b c → r a c
 total : ∀ a b, r a b ∨ r b a
 anti : ∀ {a b}, r a b → r b a → a = b
variable {α : Type} [DecidableEq α] {r : α → α → Prop} [DecidableRel r]

/-- the place that comes next behind s, from those up to a bound -/
def nearS (r : α → α → Prop) [DecidableRel r] (s : α) (cuts : List α) (st : α × Bool) : α × Bool :=
 cuts.foldl (fun st t => if t ≠ s ∧ r s t ∧ r t st.1 then (t, true) else st) st
theorem near_spec (h : Tot r) (s : α) : ∀ (cuts : List α) (nx : α) (fd : Bool),
  (fd = true → nx ≠ s ∧ r s nx) →
  ((nearS r s cuts (nx, fd)).2 = true → ((nearS r s cuts (nx, fd)).1 ∈ cuts ∧ (nearS r s cuts (nx, fd)).1 ≠ s ∧ r s (nearS r s cuts (nx, fd)).1) ∨ (fd = true ∧ (nearS r s cuts (nx, fd)).1 = nx)) ∧
  ((nearS r s cuts (nx, fd)).2 = false → fd = false ∧ (nearS r s cuts (nx, fd)).1 = nx ∧ ∀ t ∈ cuts, t ≠ s → r s t → ¬r t nx) ∧
  r (nearS r s cuts (nx, fd)).1 nx ∧ (∀ t ∈ cuts, t ≠ s → r s t → r (nearS r s cuts (nx, fd)).1 t)
 | [], nx, fd, _ => ⟨fun e => .inr ⟨e, rfl⟩, fun e => ⟨e, rfl, fun t ht => by simp at ht⟩, h.refl _, fun t ht => by simp at ht⟩
 | x :: l, nx, fd, h0 => by
   show ((nearS r s l (if x ≠ s ∧ r s x ∧ r x nx then (x, true) else (nx, fd))).2 = true → _) ∧ _
   by_cases hc : x ≠ s ∧ r s x ∧ r x nx
   ·have e : nearS r s (x :: l) (nx, fd) = nearS r s l (x, true) := by
     show nearS r s l (if x ≠ s ∧ r s x ∧ r x nx then (x, true) else (nx, fd)) = _
     rw [if_pos hc]
    rw [if_pos hc, e]
    obtain ⟨i1, i2, i3, i4⟩ := near_spec h s l x true (fun _ => ⟨hc.1, hc.2.1⟩)
    refine ⟨fun q => .inl ?_, fun q => absurd (i2 q).1 (by decide), h.trans i3 hc.2.2, fun t ht h1 h2 => ?_⟩
    ·rcases i1 q with ⟨a, b, c⟩ | ⟨_, a⟩
     ·exact ⟨List.mem_cons_of_mem _ a, b, c⟩
     ·rw [a]; exact ⟨List.mem_cons_self .., hc.1, hc.2.1⟩
    ·rcases List.mem_cons.1 ht with rfl | ht
     ·exact i3
     ·exact i4 t ht h1 h2
   ·have e : nearS r s (x :: l) (nx, fd) = nearS r s l (nx, fd) := by
     show nearS r s l (if x ≠ s ∧ r s x ∧ r x nx then (x, true) else (nx, fd)) = _
     rw [if_neg hc]
    rw [if_neg hc, e]
    obtain ⟨i1, i2, i3, i4⟩ := near_spec h s l nx fd h0
    refine ⟨fun q => ?_, fun q => ⟨(i2 q).1, (i2 q).2.1, fun t ht h1 h2 => ?_⟩, i3, fun t ht h1 h2 => ?_⟩
    ·rcases i1 q with ⟨a, b, c⟩ | a
     ·exact .inl ⟨List.mem_cons_of_mem _ a, b, c⟩
     ·exact .inr a
    ·rcases List.mem_cons.1 ht with rfl | ht
     ·exact fun h3 => hc ⟨h1, h2, h3⟩
     ·exact (i2 q).2.2 t ht h1 h2
    ·rcases List.mem_cons.1 ht with rfl | ht
     ·rcases h.total t nx with h3 | h3
      ·exact absurd ⟨h1, h2, h3⟩ hc
      ·exact h.trans i3 h3
     ·exact i4 t ht h1 h2
/-- strictly in order -/
def Inc (r : α → α → Prop) (l : List α) : Prop := l.Pairwise fun x y => r x y ∧ x ≠ y
def headS (b : α) : List α → α × Bool
 | [] => (b, false)
 | m :: _ => (m, true)
theorem near_first (h : Tot r) {s b : α} {cuts rest : List α} (hs : Inc r rest) (hm : ∀ t, t ∈ rest ↔ t ∈ cuts ∧ t ≠ s ∧ r s t) (hb : ∀ t ∈ cuts, r t b) :
  nearS r s cuts (b, false) = headS b rest := by
 obtain ⟨i1, i2, i3, i4⟩ := near_spec h s cuts b false (fun e => by cases e)
 generalize nearS r s cuts (b, false) = q at *
 obtain ⟨nx, fd⟩ := q
 cases rest with
 | nil =>
   cases fd with
   | true =>
     rcases i1 rfl with ⟨a, b, c⟩ | ⟨a, _⟩
     ·have := (hm nx).2 ⟨a, b, c⟩; simp at this
     ·cases a
   | false => exact congrArg (fun x => (x, false)) (i2 rfl).2.1
 | cons m tl =>
   obtain ⟨m1, m2, m3⟩ := (hm m).1 (List.mem_cons_self ..)
   cases fd with
   | false => exact absurd (hb m m1) ((i2 rfl).2.2 m m1 m2 m3)
   | true =>
     rcases i1 rfl with ⟨a, b, c⟩ | ⟨a, _⟩
     ·have h1 := i4 m m1 m2 m3
      rcases List.mem_cons.1 ((hm nx).2 ⟨a, b, c⟩) with h2 | h2
      ·exact congrArg (fun x => (x, true)) h2
      ·have := ((List.pairwise_cons.1 hs).1 nx h2)
       exact absurd (h.anti this.1 h1) this.2
     ·cases a
/-- the parts after one segment: cut at each place, and on to the end -/
def cutS (st : List (List α) × List α) (p : α) : List (List α) × List α := (st.1 ++ [st.2 ++ [p]], [p])
def segS (b : α) (rest : List α) (st : List (List α) × List α) : List (List α) × List α :=
 let q := rest.foldl cutS st
 if q.2.getLast? = some b then q else (q.1, q.2 ++ [b])
/-- the law's way through one segment -/
def goS (r : α → α → Prop) [DecidableRel r] (b : α) (cuts : List α) : Nat → List (List α) → List α → α → List (List α) × List α
 | 0, out, part, _ => (out, part)
 | f + 1, out, part, s =>
   let q := nearS r s cuts (b, false)
   if q.1 = s then (out, part)
   else if q.1 = b then (if q.2 then (out ++ [part ++ [q.1]], [q.1]) else (out, part ++ [q.1]))
   else (if q.2 then goS r b cuts f (out ++ [part ++ [q.1]]) [q.1] q.1 else goS r b cuts f out (part ++ [q.1]) q.1)
theorem go_seg (h : Tot r) {b : α} {cuts : List α} (hb : ∀ t ∈ cuts, r t b) : ∀ (rest : List α) (f : Nat) (out : List (List α)) (part : List α) (s : α), rest.length < f → Inc r rest →
  (∀ t, t ∈ rest ↔ t ∈ cuts ∧ t ≠ s ∧ r s t) → part.getLast? = some s → s ≠ b → goS r b cuts f out part s = segS b rest (out, part)
 | [], f + 1, out, part, s, _, hs, hm, hl, hsb => by
   have e : nearS r s cuts (b, false) = (b, false) := near_first h hs hm hb
   have e2 : segS b [] (out, part) = (out, part ++ [b]) := by
    show (if part.getLast? = some b then _ else _) = _
    rw [if_neg (by rw [hl]; simpa using hsb)]
    rfl
   rw [e2]
   unfold goS
   simp only [e]
   rw [if_neg fun e => hsb e.symm, if_pos trivial, if_neg (by decide)]
 | m :: tl, f + 1, out, part, s, hf, hs, hm, hl, hsb => by
   have e : nearS r s cuts (b, false) = (m, true) := near_first h hs hm hb
   obtain ⟨m1, m2, m3⟩ := (hm m).1 (List.mem_cons_self ..)
   obtain ⟨p1, p2⟩ := List.pairwise_cons.1 hs
   unfold goS
   simp only [e]
   rw [if_neg m2]
   by_cases hmb : m = b
   ·rw [if_pos hmb]
    have ht : tl = [] := by
     cases tl with
     | nil => rfl
     | cons t tl =>
       have q := p1 t (List.mem_cons_self ..)
       have q2 := hb t ((hm t).1 (by simp)).1
       rw [← hmb] at q2
       exact absurd (h.anti q.1 q2) q.2
    subst ht
    unfold segS cutS
    simp [hmb]
   ·rw [if_neg hmb]
    have ih := go_seg h hb tl f (out ++ [part ++ [m]]) [m] m (by simp at hf; omega) p2 (fun t => ⟨fun ht => ?_, fun ht => ?_⟩) (by simp) hmb
    ·simp only [if_true]
     rw [ih]
     rfl
    ·have q := p1 t ht
     exact ⟨((hm t).1 (List.mem_cons_of_mem _ ht)).1, fun e => q.2 e.symm, q.1⟩
    ·have hts : t ≠ s := fun e => by
      subst e; exact m2 (h.anti ht.2.2 m3)
     rcases List.mem_cons.1 ((hm t).2 ⟨ht.1, hts, h.trans m3 ht.2.2⟩) with h1 | h1
     ·exact absurd h1 ht.2.1
     ·exact h1
 | [], 0, _, _, _, hf, _, _, _, _ => absurd hf (Nat.not_lt_zero _)
 | _ :: _, 0, _, _, _, hf, _, _, _, _ => absurd hf (Nat.not_lt_zero _)
end Go.Sp

/-
 SPLITTING a chain, plain: places on one segment in their order; equal neighbours left out. Own work.
-/
namespace Go.Sp
open Go.Ge

/-- the order along a segment -/
def rD (a b p q : Pt) : Prop := if le a b then le p q else le q p
instance (a b : Pt) : Decidable (le a b) := by unfold le; infer_instance
instance (a b : Pt) : DecidableRel (rD a b) := fun p q => by unfold rD; infer_instance
theorem rD_tot (a b : Pt) : Tot (rD a b) := by
 refine ⟨fun p => ?_, fun {p q s} h k => ?_, fun p q => ?_, fun {p q} h k => ?_⟩ <;> unfold rD at *
 ·split <;> exact le_refl p
 ·split
  ·rename_i hh; rw [if_pos hh] at h k; exact le_trans h k
  ·rename_i hh; rw [if_neg hh] at h k; exact le_trans k h
 ·split
  ·exact le_total p q
  ·exact le_total q p
 ·split at h
  ·rename_i hh; rw [if_pos hh] at k; exact le_antisymm h k
  ·rename_i hh; rw [if_neg hh] at k; exact le_antisymm k h
theorem col3 {a b s t u : Pt} (hs : onS a b s) (ht : onS a b t) (hu : onS a b u) : ar s t u = 0 := by
 obtain ⟨x, _, _, h1, h2⟩ := hs
 obtain ⟨y, _, _, h3, h4⟩ := ht
 obtain ⟨z, _, _, h5, h6⟩ := hu
 unfold ar
 rw [h1, h2, h3, h4, h5, h6]
 grind
/-- between two places of a segment, the first one ahead of the second -/
theorem btw_rD {a b s n t : Pt} (hs : onS a b s) (hn : onS a b n) (ht : onS a b t) (h : rD a b s n) : btw s n t ↔ rD a b s t ∧ rD a b t n := by
 have hc := col3 hs hn ht
 unfold rD at *
 unfold btw
 split at h
 ·rename_i hh
  rw [if_pos hh, if_pos hh]
  refine ⟨fun ⟨_, k⟩ => ?_, fun k => ⟨hc, .inl k⟩⟩
  rcases k with k | ⟨k1, k2⟩
  ·exact k
  ·have e := le_antisymm h (le_trans k1 k2)
   subst e
   exact ⟨k1, k2⟩
 ·rename_i hh
  rw [if_neg hh, if_neg hh]
  refine ⟨fun ⟨_, k⟩ => ?_, fun k => ⟨hc, .inr ⟨k.2, k.1⟩⟩⟩
  rcases k with ⟨k1, k2⟩ | k
  ·have e := le_antisymm h (le_trans k1 k2)
   subst e
   exact ⟨k2, k1⟩
  ·exact ⟨k.2, k.1⟩
theorem ends_rD {a b t : Pt} (hab : a ≠ b) (h : btw a b t) : rD a b a t ∧ rD a b t b := by
 unfold rD
 split
 ·rename_i hh
  rcases h.2 with k | ⟨k1, k2⟩
  ·exact k
  ·exact absurd (le_antisymm hh (le_trans k1 k2)) hab
 ·rename_i hh
  rcases h.2 with ⟨k1, k2⟩ | k
  ·exact absurd (le_trans k1 k2) hh
  ·exact ⟨k.2, k.1⟩
/-- the law's search among all places of both chains -/
noncomputable def lnear (i : Nat) (s : Pt) (xs : List (Nat × Nat × Pt)) (st : Pt × Bool) : Pt × Bool :=
 xs.foldl (fun st x => @ite _ (x.1 = i ∧ x.2.2 ≠ s ∧ btw s st.1 x.2.2) (Classical.propDecidable _) (x.2.2, true) st) st
/-- those on one segment -/
def onI (i : Nat) (xs : List (Nat × Nat × Pt)) : List Pt := (xs.filter fun x => x.1 == i).map fun x => x.2.2
theorem lnear_eq {i : Nat} {a b s : Pt} (hs : onS a b s) : ∀ (xs : List (Nat × Nat × Pt)), (∀ x ∈ xs, x.1 = i → onS a b x.2.2) → ∀ (nx : Pt) (fd : Bool), onS a b nx → rD a b s nx →
  lnear i s xs (nx, fd) = nearS (rD a b) s (onI i xs) (nx, fd)
 | [], _, nx, fd, _, _ => rfl
 | x :: xs, hx, nx, fd, hn, hr => by
   have ih := lnear_eq hs xs (fun y hy => hx y (List.mem_cons_of_mem _ hy))
   unfold lnear
   rw [List.foldl_cons]
   by_cases hi : x.1 = i
   ·have hxo := hx x (List.mem_cons_self ..) hi
    have e : onI i (x :: xs) = x.2.2 :: onI i xs := by unfold onI; rw [List.filter_cons_of_pos (by simpa using hi)]; rfl
    rw [e]
    unfold nearS
    rw [List.foldl_cons]
    have hb := btw_rD hs hn hxo hr
    by_cases hc : x.2.2 ≠ s ∧ rD a b s x.2.2 ∧ rD a b x.2.2 nx
    ·rw [if_pos ⟨hi, hc.1, hb.2 hc.2⟩, if_pos hc]
     exact ih _ _ hxo hc.2.1
    ·rw [if_neg fun h => hc ⟨h.2.1, hb.1 h.2.2⟩, if_neg hc]
     exact ih _ _ hn hr
   ·have e : onI i (x :: xs) = onI i xs := by unfold onI; rw [List.filter_cons_of_neg (by simpa using hi)]
    rw [e, if_neg fun h => hi h.1]
    exact ih _ _ hn hr
/-- equal neighbours left out -/
def cpt {α : Type} [DecidableEq α] : List α → List α
 | [] => []
 | [x] => [x]
 | x :: y :: l => if x = y then cpt (y :: l) else x :: cpt (y :: l)
theorem cpt_mem {α : Type} [DecidableEq α] : ∀ (l : List α) (t : α), t ∈ cpt l ↔ t ∈ l
 | [], t => Iff.rfl
 | [x], t => Iff.rfl
 | x :: y :: l, t => by
   have ih := cpt_mem (y :: l) t
   unfold cpt
   split
   ·rename_i e
    rw [ih, e]; simp
   ·rw [List.mem_cons, ih, List.mem_cons (a := t) (b := x)]
theorem cpt_inc {α : Type} [DecidableEq α] {r : α → α → Prop} (h : Tot r) : ∀ l : List α, l.Pairwise r → Inc r (cpt l)
 | [], _ => List.Pairwise.nil
 | [x], _ => List.pairwise_singleton ..
 | x :: y :: l, hp => by
   obtain ⟨p1, p2⟩ := List.pairwise_cons.1 hp
   have ih := cpt_inc h (y :: l) p2
   unfold cpt
   split
   ·exact ih
   ·rename_i hne
    refine List.pairwise_cons.2 ⟨fun t ht => ?_, ih⟩
    have ht2 := (cpt_mem _ t).1 ht
    refine ⟨p1 t ht2, fun e => ?_⟩
    subst e
    rcases List.mem_cons.1 ht2 with h1 | h1
    ·exact hne h1
    ·exact hne (h.anti (p1 y (List.mem_cons_self ..)) ((List.pairwise_cons.1 p2).1 x h1))
/-- one segment: the sorted places of the program lead as the law's search -/
theorem seg_eq {i : Nat} {a b : Pt} {xs : List (Nat × Nat × Pt)} {l : List Pt} (hab : a ≠ b) (hx : ∀ x ∈ xs, x.1 = i → btw a b x.2.2) (hl : l.Perm ((onI i xs).filter fun p => !decide (p = a))) (hs : l.Pairwise (rD a b))
  {f : Nat} (hf : xs.length < f) (out : List (List Pt)) (part : List Pt) (hp : part.getLast? = some a) : goS (rD a b) b (onI i xs) f out part a = segS b (cpt l) (out, part) := by
 have ht := rD_tot a b
 have hon : ∀ t ∈ onI i xs, btw a b t := fun t h => by
  obtain ⟨x, h1, rfl⟩ := List.mem_map.1 h
  obtain ⟨h2, h3⟩ := List.mem_filter.1 h1
  exact hx x h2 (by simpa using h3)
 refine go_seg ht (fun t h => (ends_rD hab (hon t h)).2) (cpt l) f out part a ?_ (cpt_inc ht l hs) (fun t => ?_) hp hab
 ·have h1 : ∀ m : List Pt, (cpt m).length ≤ m.length := fun m => by
   induction m with
   | nil => exact Nat.le_refl _
   | cons x m ih =>
     cases m with
     | nil => exact Nat.le_refl _
     | cons y m =>
       unfold cpt
       split
       ·exact Nat.le_trans ih (by simp)
       ·simpa using ih
  have h2 := h1 l
  have h3 := hl.length_eq
  have h4 := List.length_filter_le (fun p : Pt => !decide (p = a)) (onI i xs)
  have h5 : (onI i xs).length ≤ xs.length := by unfold onI; rw [List.length_map]; exact List.length_filter_le _ _
  omega
 ·rw [cpt_mem, hl.mem_iff, List.mem_filter]
  constructor
  ·rintro ⟨h1, h2⟩
   exact ⟨h1, by simpa using h2, (ends_rD hab (hon t h1)).1⟩
  ·rintro ⟨h1, h2, _⟩
   exact ⟨h1, by simpa using h2⟩
end Go.Sp

/-
 PLANE GEOMETRY: when two sides of a chain or of a ring have more in common than they may: two ways. Own work.
-/
namespace Go.Ge

/-- how many places two segments have in common, at most two -/
def Mt.num : Mt → Nat
 | .apart => 0
 | .touch _ => 1
 | .over => 2
/-- the only common place of ends -/
theorem meetL_touch {a b c d p : Pt} (h : meetL a b c d = .touch p) {x : Pt} (hx : x ∈ [a, b, c, d]) (hb : btw a b x ∧ btw c d x) : x = p := by
 obtain ⟨h1, h2⟩ := onB_mem a b c d 4 [a, b, c, d] rfl
 have hm := (h2 x).2 ⟨hx, hb⟩
 unfold meetL at h
 generalize onB a b c d [a, b, c, d] = l at *
 match l with
 | [] => cases hm
 | [y] => cases h; exact List.mem_singleton.1 hm
 | y :: z :: l => cases h
/-- may two sides meet once? -/
def next (n segs i k : Nat) : Prop := k = i + 1 ∨ (segs = n ∧ i = 0 ∧ k = n - 1)
instance (n segs i k : Nat) : Decidable (next n segs i k) := inferInstanceAs (Decidable (k = i + 1 ∨ (segs = n ∧ i = 0 ∧ k = n - 1)))
/-- the program's test -/
def crossP (g : Nat → Pt) (n segs i k : Nat) : Prop :=
 match meetP (g i) (g ((i + 1) % n)) (g k) (g ((k + 1) % n)) with
 | .apart => False
 | .over => True
 | .touch p => if ¬next n segs i k then True else if k = i + 1 ∧ p = g k then False else p ≠ g i ∨ k ≠ n - 1
/-- the law's test -/
def crossL (g : Nat → Pt) (n segs i k : Nat) : Prop := (if next n segs i k then 1 else 0) < (meetL (g i) (g ((i + 1) % n)) (g k) (g ((k + 1) % n))).num
theorem cross_eq {g : Nat → Pt} {n segs i k : Nat} (hs : segs = n ∨ segs + 1 = n) (hn : 2 ≤ n) (hik : i < k) (hk : k < segs) (hne : ∀ j, j < segs → g j ≠ g ((j + 1) % n)) : crossP g n segs i k ↔ crossL g n segs i k := by
 unfold crossP crossL
 rw [meet_eq (hne i (by omega)) (hne k hk)]
 generalize hm : meetL (g i) (g ((i + 1) % n)) (g k) (g ((k + 1) % n)) = m
 cases m with
 | apart => simp [Mt.num]
 | over => simp only [Mt.num, true_iff]; split <;> omega
 | touch p =>
   by_cases hx : next n segs i k
   ·simp only [hx, not_true, if_false, if_true, Mt.num]
    have e1 : (i + 1) % n = i + 1 := Nat.mod_eq_of_lt (by omega)
    by_cases h1 : k = i + 1
    ·have hp : g k = p := by
      refine meetL_touch hm (by simp) ⟨?_, btw_onS.2 (onS_left _ _)⟩
      rw [e1, ← h1]; exact btw_onS.2 (onS_right _ _)
     simp [h1, ← hp]
    ·rcases hx with h2 | ⟨h2, h3, h4⟩
     ·exact absurd h2 h1
     ·have e2 : (k + 1) % n = 0 := by rw [h4, show n - 1 + 1 = n by omega, Nat.mod_self]
      have hp : g i = p := by
       refine meetL_touch hm (by simp) ⟨btw_onS.2 (onS_left _ _), ?_⟩
       rw [e2, h3]; exact btw_onS.2 (onS_right _ _)
      simp only [h1, false_and, if_false, ← hp]
      simp [h4]
   ·simp [hx, Mt.num]
end Go.Ge

/-
 PLANE GEOMETRY: chains: what is wrong with one; leaving out points. Own work.
-/
namespace Go.Ge

/-- the points of a list, by their places -/
def gt (c : List Pt) (j : Nat) : Pt := c.getD j (0, 0)
instance (g : Nat → Pt) (n segs i k : Nat) : Decidable (crossP g n segs i k) := by
 unfold crossP
 split <;> infer_instance
instance (g : Nat → Pt) (n segs i k : Nat) : Decidable (crossL g n segs i k) := by
 unfold crossL; infer_instance
/-- two points beside each other are equal -/
def dbl (c : List Pt) (segs : Nat) : Bool := (List.range segs).any fun j => decide (gt c j = gt c ((j + 1) % c.length))
def crs (c : List Pt) (segs : Nat) : Bool := (List.range segs).any fun i => (List.range segs).any fun k => decide (i < k) && decide (crossP (gt c) c.length segs i k)
def crsL (c : List Pt) (segs : Nat) : Bool := (List.range segs).any fun i => (List.range segs).any fun k => decide (i < k) && decide (crossL (gt c) c.length segs i k)
theorem dbl_iff {c : List Pt} {segs : Nat} : dbl c segs = true ↔ ∃ j, j < segs ∧ gt c j = gt c ((j + 1) % c.length) := by
 simp [dbl]
theorem crs_iff {c : List Pt} {segs : Nat} : crs c segs = true ↔ ∃ i k, i < k ∧ k < segs ∧ crossP (gt c) c.length segs i k := by
 simp only [crs, List.any_eq_true, List.mem_range, Bool.and_eq_true, decide_eq_true_eq]
 constructor
 ·rintro ⟨i, _, k, h1, h2, h3⟩; exact ⟨i, k, h2, h1, h3⟩
 ·rintro ⟨i, k, h1, h2, h3⟩; exact ⟨i, by omega, k, h2, h1, h3⟩
theorem crsL_iff {c : List Pt} {segs : Nat} : crsL c segs = true ↔ ∃ i k, i < k ∧ k < segs ∧ crossL (gt c) c.length segs i k := by
 simp only [crsL, List.any_eq_true, List.mem_range, Bool.and_eq_true, decide_eq_true_eq]
 constructor
 ·rintro ⟨i, _, k, h1, h2, h3⟩; exact ⟨i, k, h2, h1, h3⟩
 ·rintro ⟨i, k, h1, h2, h3⟩; exact ⟨i, by omega, k, h2, h1, h3⟩
/-- how many segments -/
def segs (c : List Pt) (ring : Bool) : Nat := if ring then c.length else c.length - 1
/-- the error of a chain, or of a ring, of right points -/
def chkN (c : List Pt) (ring : Bool) : Int :=
 if c.length < (if ring then 3 else 2) then 5 else if 400 < c.length then 4 else if dbl c (segs c ring) then 17 else if crs c (segs c ring) then 26 else 0
theorem crs_eq {c : List Pt} {ring : Bool} (h : ¬c.length < (if ring then 3 else 2)) (hd : ¬dbl c (segs c ring) = true) : crs c (segs c ring) = crsL c (segs c ring) := by
 have hn : 2 ≤ c.length := by cases ring <;> simp at h <;> omega
 have hs : segs c ring = c.length ∨ segs c ring + 1 = c.length := by cases ring <;> simp [segs] <;> omega
 have hne : ∀ j, j < segs c ring → gt c j ≠ gt c ((j + 1) % c.length) := fun j hj e => hd (dbl_iff.2 ⟨j, hj, e⟩)
 rw [Bool.eq_iff_iff, crs_iff, crsL_iff]
 constructor
 ·rintro ⟨i, k, h1, h2, h3⟩; exact ⟨i, k, h1, h2, (cross_eq hs hn h1 h2 hne).1 h3⟩
 ·rintro ⟨i, k, h1, h2, h3⟩; exact ⟨i, k, h1, h2, (cross_eq hs hn h1 h2 hne).2 h3⟩
/-- the magnitude -/
def abQ (q : Rat) : Rat := if q < 0 then -q else q
/-- is a list a chain? -/
def good (c : List Pt) : Bool := decide (chkN c false = 0)
/-- the point to be left out, of the points 1 to k -/
def pick (most : Rat) (c : List Pt) : Nat → Option (Nat × Rat)
 | 0 => none
 | k + 1 =>
   match pick most c k with
   | none => if abQ (ar (gt c k) (gt c (k + 1)) (gt c (k + 2))) ≤ most ∧ good (c.eraseIdx (k + 1)) = true then some (k + 1, abQ (ar (gt c k) (gt c (k + 1)) (gt c (k + 2)))) else none
   | some (j, y) => if abQ (ar (gt c k) (gt c (k + 1)) (gt c (k + 2))) < y ∧ good (c.eraseIdx (k + 1)) = true then some (k + 1, abQ (ar (gt c k) (gt c (k + 1)) (gt c (k + 2)))) else some (j, y)
/-- points left out, at most so many -/
def simp (most : Rat) : Nat → List Pt → List Pt
 | 0, c => c
 | f + 1, c => match pick most c (c.length - 2) with
   | none => c
   | some (i, _) => simp most f (c.eraseIdx i)
theorem pick_spec {most : Rat} {c : List Pt} : ∀ {k i : Nat} {y : Rat}, pick most c k = some (i, y) → 1 ≤ i ∧ i ≤ k ∧ y ≤ most ∧ good (c.eraseIdx i) = true
 | 0, _, _, h => by cases h
 | k + 1, i, y, h => by
   unfold pick at h
   split at h
   ·split at h
    ·rename_i hc
     cases h
     exact ⟨by omega, by omega, hc.1, hc.2⟩
    ·cases h
   ·rename_i j z hj
    obtain ⟨h1, h2, h3, h4⟩ := pick_spec hj
    split at h
    ·rename_i hc
     cases h
     exact ⟨by omega, by omega, by grind, hc.2⟩
    ·cases h
     exact ⟨h1, by omega, h3, h4⟩
end Go.Ge

/-
 SPLITTING a chain, plain: all segments. Own work.
-/
namespace Go.Sp
open Go.Ge

/-- the places of one segment in their order, each once -/
noncomputable def cutsOf (a : List Pt) (xs : List (Nat × Nat × Pt)) (i : Nat) : List Pt :=
 cpt (((onI i xs).filter fun p => !decide (p = gt a i)).mergeSort fun p q => decide (rD (gt a i) (gt a (i + 1)) p q))
theorem sorted_eq {α : Type} {r : α → α → Prop} [DecidableRel r] (h : Tot r) {l m : List α} (hp : l.Perm m) (hs : l.Pairwise r) : l = m.mergeSort fun p q => decide (r p q) := by
 have h1 : (m.mergeSort fun p q => decide (r p q)).Pairwise r := by
  have := List.pairwise_mergeSort (le := fun p q => decide (r p q)) (fun a b c h1 h2 => by simp at *; exact h.trans h1 h2) (fun a b => by simp; exact h.total a b) m
  exact this.imp fun e => by simpa using e
 exact List.Perm.eq_of_pairwise (fun a b _ _ h1 h2 => h.anti h1 h2) hs h1 (hp.trans (List.mergeSort_perm ..).symm)
/-- the parts after k segments -/
noncomputable def partsK (a : List Pt) (xs : List (Nat × Nat × Pt)) : Nat → List (List Pt) × List Pt
 | 0 => ([], [gt a 0])
 | k + 1 => segS (gt a (k + 1)) (cutsOf a xs k) (partsK a xs k)
noncomputable def partsA (a : List Pt) (xs : List (Nat × Nat × Pt)) : List (List Pt) :=
 if 1 < (partsK a xs (a.length - 1)).2.length then (partsK a xs (a.length - 1)).1 ++ [(partsK a xs (a.length - 1)).2] else (partsK a xs (a.length - 1)).1
theorem seg_last {α : Type} [DecidableEq α] (b : α) : ∀ (rest : List α) (st : List (List α) × List α), (segS b rest st).2.getLast? = some b := fun rest st => by
 unfold segS
 simp only
 split
 ·assumption
 ·simp
theorem parts_last (a : List Pt) (xs : List (Nat × Nat × Pt)) : ∀ k, (partsK a xs k).2.getLast? = some (gt a k)
 | 0 => rfl
 | k + 1 => seg_last ..
/-- the law's way through one more segment -/
theorem parts_go {a : List Pt} {xs : List (Nat × Nat × Pt)} {k : Nat} (hab : gt a k ≠ gt a (k + 1)) (hx : ∀ x ∈ xs, x.1 = k → btw (gt a k) (gt a (k + 1)) x.2.2) {f : Nat} (hf : xs.length < f) :
  goS (rD (gt a k) (gt a (k + 1))) (gt a (k + 1)) (onI k xs) f (partsK a xs k).1 (partsK a xs k).2 (gt a k) = partsK a xs (k + 1) := by
 have ht := rD_tot (gt a k) (gt a (k + 1))
 have h1 := List.pairwise_mergeSort (le := fun p q => decide (rD (gt a k) (gt a (k + 1)) p q)) (fun x y z h1 h2 => by simp at *; exact ht.trans h1 h2) (fun x y => by simp; exact ht.total x y) ((onI k xs).filter fun p => !decide (p = gt a k))
 exact seg_eq hab hx (List.mergeSort_perm ..) (h1.imp fun e => by simpa using e) hf _ _ (parts_last a xs k)
/-- the program's way through one more segment, its places sorted in any way -/
theorem parts_seg {a : List Pt} {xs : List (Nat × Nat × Pt)} {k : Nat} {l : List Pt} (hl : l.Perm ((onI k xs).filter fun p => !decide (p = gt a k))) (hs : l.Pairwise (rD (gt a k) (gt a (k + 1)))) :
  segS (gt a (k + 1)) (cpt l) (partsK a xs k) = partsK a xs (k + 1) := by
 show _ = segS _ (cutsOf a xs k) _
 unfold cutsOf
 rw [← sorted_eq (rD_tot _ _) hl hs]
end Go.Sp

/-
 SORTING by exchanging neighbours, plain: in order but for one place. Own work.
-/
namespace Go.Sp
open Go.Ge

/-- in order but for one place -/
def ordB (r : Pt → Pt → Prop) (c : List Pt) (i j : Nat) : Prop := ∀ a b x y, a < b → b ≤ i → b ≠ j → c[a]? = some x → c[b]? = some y → r x y
def ordA (r : Pt → Pt → Prop) (c : List Pt) (i : Nat) : Prop := ∀ a b x y, a < b → b < i → c[a]? = some x → c[b]? = some y → r x y
theorem ordB_of {r : Pt → Pt → Prop} {c : List Pt} {i : Nat} (h : ordA r c i) : ordB r c i i := fun a b x y h1 h2 h3 => h a b x y h1 (by omega)
theorem ordA_zero {r : Pt → Pt → Prop} {c : List Pt} {i : Nat} (h : ordB r c i 0) : ordA r c (i + 1) := fun a b x y h1 h2 => h a b x y h1 (by omega) (by omega)
theorem ordA_stop {r : Pt → Pt → Prop} (ht : Tot r) {c : List Pt} {i j : Nat} {p q : Pt} (h : ordB r c i (j + 1)) (hp : c[j]? = some p) (hq : c[j + 1]? = some q) (hle : r p q) : ordA r c (i + 1) := by
 intro a b x y h1 h2 ha hb
 by_cases e : b = j + 1
 ·subst e
  rw [hq] at hb; cases hb
  by_cases e2 : a = j
  ·subst e2; rw [hp] at ha; cases ha; exact hle
  ·exact ht.trans (h a j x p (by omega) (by omega) (by omega) ha hp) hle
 ·exact h a b x y h1 (by omega) e ha hb
theorem ordB_swap {r : Pt → Pt → Prop} {c : List Pt} {i j : Nat} {p q : Pt} (h : ordB r c i (j + 1)) (hj : j + 1 ≤ i) (hp : c[j]? = some p) (hq : c[j + 1]? = some q) (hlt : r q p) : ordB r ((c.set (j + 1) p).set j q) i j := by
 have hl : j + 1 < c.length := (List.getElem?_eq_some_iff.1 hq).1
 have g : ∀ k, ((c.set (j + 1) p).set j q)[k]? = if k = j then some q else if k = j + 1 then some p else c[k]? := by
  intro k
  rw [List.getElem?_set, List.getElem?_set, List.length_set]
  by_cases e1 : k = j
  ·rw [if_pos e1.symm, if_pos (by omega), if_pos e1]
  ·rw [if_neg (Ne.symm e1), if_neg e1]
   by_cases e2 : k = j + 1
   ·rw [if_pos e2.symm, if_pos (by omega), if_pos e2]
   ·rw [if_neg (Ne.symm e2), if_neg e2]
 intro a b x y h1 h2 h3 ha hb
 rw [g] at ha hb
 rw [if_neg h3] at hb
 by_cases eb : b = j + 1
 ·rw [if_pos eb] at hb; cases hb
  by_cases ea : a = j
  ·rw [if_pos ea] at ha; cases ha; exact hlt
  ·rw [if_neg ea, if_neg (by omega)] at ha
   exact h a j x p (by omega) (by omega) (by omega) ha hp
 ·rw [if_neg eb] at hb
  by_cases ea : a = j
  ·rw [if_pos ea] at ha; cases ha
   exact h (j + 1) b q y (by omega) h2 eb hq hb
  ·rw [if_neg ea] at ha
   by_cases ea2 : a = j + 1
   ·rw [if_pos ea2] at ha; cases ha
    exact h j b p y (by omega) h2 eb hp hb
   ·rw [if_neg ea2] at ha
    exact h a b x y h1 h2 eb ha hb
theorem swap_perm {c : List Pt} {j : Nat} {p q : Pt} (hp : c[j]? = some p) (hq : c[j + 1]? = some q) : ((c.set (j + 1) p).set j q).Perm c := by
 obtain ⟨h1, rfl⟩ := List.getElem?_eq_some_iff.1 hp
 obtain ⟨h2, rfl⟩ := List.getElem?_eq_some_iff.1 hq
 exact List.set_set_perm h2 h1
theorem ordA_sorted {r : Pt → Pt → Prop} {c : List Pt} (h : ordA r c c.length) : c.Pairwise fun x y => r x y := by
 rw [List.pairwise_iff_getElem]
 intro a b ha hb hab
 exact h a b _ _ hab hb (List.getElem?_eq_getElem ha) (List.getElem?_eq_getElem hb)
end Go.Sp
