/-
 OWN ROWS of pairs of strings, read as data. Own work.
-/
import Derived.Test.YtbcehhemdapjlaaGreatDoorPj
import Derived.Deep.AppendLies
set_option linter.unusedVariables false
set_option linter.unusedSimpArgs false
namespace Go.Pi
open Go Go.RowKit

section
variable {α : Type} (f g : α → List UInt8)
/-- the cells of a pair, and its data -/
def enc2 (x : α) : List Value := [.string ⟨(f x).toArray⟩, .string ⟨(g x).toArray⟩]
def dat2 (x : α) : List D := [.str (f x), .str (g x)]
def cel2 (l : List α) : List Value := l.flatMap (enc2 f g)
variable {f g}
end
section
variable {α : Type} {f g : α → List UInt8}
end
end Go.Pi
namespace Go.Pi
open Go Go.RowKit
variable {P : Program}
end Go.Pi
namespace Go.Pi
open Go Go.RowKit
theorem gr_trans {a b c : World} {r : Option Nat} (h : a.grownBy b r) (h2 : b.grownBy c r) : a.grownBy c r :=
 ⟨h2.os.trans h.os, h2.tape.trans h.tape, h2.output.trans h.output, Nat.le_trans h.size h2.size, fun k hk hn => (h2.block k (Nat.lt_of_lt_of_le hk h.size) hn).trans (h.block k hk hn)⟩
theorem gr_below {a b : World} {r : Option Nat} (h : Below a.heap.size a b) : a.grownBy b r := ⟨h.os, h.tape, h.output, h.size, fun k hk _ => h.block k hk⟩
theorem gr_self (a : World) {r : Option Nat} : a.grownBy a r := ⟨rfl, rfl, rfl, Nat.le_refl _, fun _ _ _ => rfl⟩
theorem gr_drew {a b : World} {r : Option Nat} (h : a.grownBy b r) : a.grownBy b.drew r := ⟨h.os, h.tape, h.output, h.size, h.block⟩
end Go.Pi
namespace Go.Pi
open Go Go.RowKit
theorem own_base {w : World} {base base' e sz : Nat} {v : Value} {n : Nat} {xs : List Value} (h : w.ownsRow base e sz v n xs) (hle : base' ≤ base) : w.ownsRow base' e sz v n xs := by
 refine ⟨h.1, ?_⟩
 rcases h.2 with h1 | ⟨g, cap, cur, h1, h2, h3⟩
 ·exact .inl h1
 ·exact .inr ⟨g, cap, cur, h1, Nat.le_trans hle h2, h3⟩
end Go.Pi

/-
 OWN ROWS: copy into a part of one. Own work.
-/
namespace Go.Pi
open Go Go.RowKit
variable {P : Program}

/-- cells copied into an own row, from the element o on -/
theorem run_copy_own (w : World) (dT sT ty e : TypeId) (base sz g N cap o dl dc k : Nat) (a : Addr) (sl sc : Nat) (xs ys : List Value)
  (hu : P.underlying dT = some (.slice e)) (hs : (P.info? e).map (·.size) = some sz) (hown : w.ownsRow base e sz (.slice (some ⟨g, 0, none⟩) N cap) N xs)
  (hk : Nat.min sl dl = k) (hfit : o + k ≤ N) (hl : ys.length = k * sz) (hsrc : ∀ j v, ys[j]? = some v → w.cell? (a.add j) = some v) (h1 : ∀ v ∈ ys, v.oneCell' = true) :
  ∃ w', (Builtin.copy_ #[dT, sT] ty #[.slice (some ⟨g, o * sz, none⟩) dl dc, .slice (some a) sl sc]).run P w = .ok (goInt k) w' ∧
    w'.ownsRow base e sz (.slice (some ⟨g, 0, none⟩) N cap) N (xs.take (o * sz) ++ ys ++ xs.drop (o * sz + k * sz)) ∧ w.grownBy w' (some g) := by
 have hxl := hown.1
 rcases hown.2 with ⟨h2, _⟩ | ⟨g', cap', cur, h2, hbg, hg, hnc, hcm, hcs, htk⟩
 ·simp at h2
 ·simp only [Value.slice.injEq, Option.some.injEq, Addr.mk.injEq, and_true, true_and] at h2
  obtain ⟨rfl, rfl⟩ := h2
  have hm : o * sz + k * sz ≤ N * sz := by rw [← Nat.add_mul]; exact Nat.mul_le_mul_right _ hfit
  have hm2 : N * sz ≤ cap * sz := Nat.mul_le_mul_right _ hnc
  have hld := run_loadCells_list (P := P) w a ys hsrc
  have hst := run_storeCells_at P g (o * sz) e ys 0 cur w hg (by omega) h1
  simp only [Nat.add_zero] at hst
  generalize hnew : (cur.toList.take (o * sz) ++ ys ++ cur.toList.drop (o * sz + ys.length)).toArray = arr at hst
  have hnl : arr.toList = cur.toList.take (o * sz) ++ ys ++ cur.toList.drop (o * sz + ys.length) := by rw [← hnew]
  have hcl : cur.toList.length = cap * sz := by rw [Array.length_toList]; exact hcs
  refine ⟨w.setRow g arr, ?_, ⟨?_, .inr ⟨g, cap, arr, rfl, hbg, setRow_heap w g cur arr e (0, 0) hg, hnc, hcm, ?_, ?_⟩⟩, ⟨rfl, rfl, rfl, by simp, fun j _ hj => setRow_other w g j arr (fun e => hj (by simp [e]))⟩⟩
  ·cases hq : P.info? e with
   | none => simp [hq] at hs
   | some i =>
     have hi : i.size = sz := by simpa [hq] using hs
     rw [hl] at hld
     simp [Builtin.copy_, run_underlying hu, Builtin.lenOf, Builtin.firstCells, sizeOf, typeInfo, hq, hi, hk, hld, hst]
  ·rw [List.length_append, List.length_append, List.length_take, List.length_drop, hl, hxl]; omega
  ·rw [← Array.length_toList, hnl, List.length_append, List.length_append, List.length_take, List.length_drop, hl, hcl]; omega
  ·rw [hnl, hl, ← htk]
   have e1 : (cur.toList.take (o * sz) ++ ys).length = o * sz + k * sz := by rw [List.length_append, List.length_take, hl, hcl]; omega
   rw [List.take_append, e1, List.take_of_length_le (by omega)]
   congr 1
   ·rw [List.take_take, Nat.min_eq_left (by omega)]
   ·rw [List.drop_take]
/-- where nothing is copied -/
theorem run_copy_zero (w : World) (dT sT ty e : TypeId) (sz : Nat) (d a : Option Addr) (dl dc sl sc : Nat) (hu : P.underlying dT = some (.slice e)) (hs : (P.info? e).map (·.size) = some sz) (hk : Nat.min sl dl = 0) :
  (Builtin.copy_ #[dT, sT] ty #[.slice d dl dc, .slice a sl sc]).run P w = .ok (goInt 0) w := by
 have hl : ∀ (x : Addr), (loadCells x 0).run P w = .ok #[] w := fun x => by simpa using run_loadCells_list (P := P) w x [] (by simp)
 cases hq : P.info? e with
 | none => simp [hq] at hs
 | some i => cases d <;> cases a <;> simp [Builtin.copy_, run_underlying hu, Builtin.lenOf, Builtin.firstCells, sizeOf, typeInfo, hq, hk, storeCells, hl]
/-- the operation copy, its run known -/
theorem wpList_copy (w : World) {ops : Array Oper} {rest : List Oper} {o : Oper} {a : Act} {Q : Exit → Act → World → Prop} (hgd : o.guard = none) (d s : Operand) (t t' : TypeId)
  (ho : o.op = .call { callee := .builtin .copy, args := #[d, s], argTypes := #[t, t'] }) (v u : Value) (hd : a.eval d = v) (hs : a.eval s = u) {v' : Value} {w' : World}
  (hr : (Builtin.copy_ #[t, t'] o.type #[v, u]).run P w = .ok v' w') (h : wpList P ops Q rest (a.put o.dst v') w') : wpList P ops Q (o :: rest) a w :=
 wpList_plain hgd fun _ hK => by
  unfold Oper.wp execOp
  simp only [ho, resolve, invoke, builtin, Sem.run_bind, Sem.run_pure, Result.andThen_ok, List.map_toArray, List.map_cons, List.map_nil, hd, hs, hr]
  exact hK _ _ h
/-- the same at a step of a region whose order is open -/
theorem step_copy {ops : Array Oper} {o : Oper} {a : Act} {w : World} {K : Act → World → Prop} {Q : Exit → Act → World → Prop} {E : Prop}
  (hg : o.guard = none) (d x : Operand) (dT sT : TypeId) (hop : o.op = Op.call { callee := Callee.builtin Builtin.copy, args := #[d, x], argTypes := #[dT, sT] })
  (v u : Value) (hd : a.eval d = v) (hx : a.eval x = u) {v' : Value} {w' : World} (hr : (Builtin.copy_ #[dT, sT] o.type #[v, u]).run P w = .ok v' w') (hK : K (a.put o.dst v') w') :
  if Region.wanted o (yielded ops a.tmps) = true then Oper.wp P o a w K Q else E := by
 have hw : Region.wanted o (yielded ops a.tmps) = true := by simp [Region.wanted, hg]
 rw [if_pos hw]
 unfold Oper.wp execOp
 simp only [hop, resolve, invoke, builtin, Sem.run_bind, Sem.run_pure, Result.andThen_ok, List.map_toArray, List.map_cons, List.map_nil, hd, hx, hr]
 exact hK
end Go.Pi

/-
 lists repeated. Own work.
-/
namespace Go.Pi
open Go Go.RowKit
theorem repl_add {α : Type} (a b : Nat) (l : List α) : (List.replicate (a + b) l).flatten = (List.replicate a l).flatten ++ (List.replicate b l).flatten := by
 induction a with
 | zero => simp
 | succ a ih => rw [Nat.succ_add, List.replicate_succ, List.flatten_cons, ih, List.replicate_succ, List.flatten_cons, List.append_assoc]
theorem repl_len {α : Type} (k : Nat) (l : List α) : ((List.replicate k l).flatten).length = k * l.length := by
 induction k with
 | zero => simp
 | succ k ih => rw [List.replicate_succ, List.flatten_cons, List.length_append, ih, Nat.succ_mul]; omega
/-- a list repeated is periodic -/
theorem repl_take {α : Type} {k q d z : Nat} {l : List α} (hq : q ≤ k) (hz : z = q * l.length) (hd : z + d ≤ k * l.length) :
  ((List.replicate k l).flatten).take (z + d) = ((List.replicate k l).flatten).take z ++ ((List.replicate k l).flatten).take d := by
 obtain ⟨r, rfl⟩ : ∃ r, k = q + r := ⟨k - q, by omega⟩
 have e1 := repl_add q r l
 have e2 : (List.replicate (q + r) l).flatten = (List.replicate r l).flatten ++ (List.replicate q l).flatten := by rw [Nat.add_comm, repl_add]
 have l1 := repl_len q l
 have l2 := repl_len r l
 rw [Nat.add_mul] at hd
 conv => lhs; rw [e1]
 rw [List.take_append, l1, List.take_of_length_le (by omega), show z + d - q * l.length = d by omega]
 congr 1
 ·rw [e1, List.take_append, l1, List.take_of_length_le (by omega), show z - q * l.length = 0 by omega]; simp
 ·rw [e2, List.take_append, show d - ((List.replicate r l).flatten).length = 0 by omega]; simp
theorem Reps.repl {S : Nat → Nat → Prop} {w : World} {ds : List D} {vs : List Value} (h : Reps S w ds vs) : ∀ k, Reps S w (List.replicate k ds).flatten (List.replicate k vs).flatten
 | 0 => Reps.nil
 | k + 1 => by rw [List.replicate_succ, List.replicate_succ, List.flatten_cons, List.flatten_cons]; exact h.app (Reps.repl h k)
end Go.Pi
