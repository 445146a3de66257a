/-
  MORE LEMMAS OF EVALUATION: boxes that hold slices of the call's own; lists of structs as cells. Own work.
-/
import Derived.Test.YthfgjhnckegneaaGreatDoorPiY
namespace Go.Pi
open Go Go.RowKit

section ev3
variable {t s : Nat} {N : EP} {E : Env} {d : D} {n m : Nat} {cs ms : List D} {l : List UInt8}
theorem GB_eq : GB = 1000000 := rfl
theorem zap_nil : zap [] E = E := rfl
theorem zap_cons {a : Nat} {l : List Nat} : zap (a :: l) E = zap l (st1 E a .un) := rfl
theorem lgF_g {G : Nat} : lgF s (.gbox G) t N E = (G = GB + s ∧ N (st1 E t (.al (GB + s)))) := rfl
theorem lgF_b {w : Bool} : lgF s (.box w [d]) t N E = (d.isPure = true ∧ d.one = true ∧ N (st1 E t d)) := rfl
theorem sgOF_g {G e : Nat} {ks : List Nat} {w : Bool} : sgOF t ks (.gbox G) (.own w e n cs) N E = (t < GB ∧ ks.all (fun z => z != t && z != GB + t) = true ∧ N (zap ks (st1 (st1 E t (.gbox (GB + t))) (GB + t) (.own w e n cs)))) := by simp [sgOF, isBox1]
theorem sgOF_b {e : Nat} {ks : List Nat} {w : Bool} {z : D} : sgOF t ks (.box true [z]) (.own w e n cs) N E = (t < GB ∧ ks.all (fun z => z != t && z != GB + t) = true ∧ N (zap ks (st1 (st1 E t (.gbox (GB + t))) (GB + t) (.own w e n cs)))) := by simp [sgOF, isBox1]
theorem sgPF_g {G : Nat} {ks : List Nat} : sgPF t ks (.gbox G) d N E = (t < GB ∧ d.isPure = true ∧ d.one = true ∧ ks.all (fun z => z != t && z != GB + t) = true ∧ N (zap ks (st1 (st1 E t (.box true [d])) (GB + t) .un))) := by simp [sgPF, isBox1]
theorem sgPF_b {ks : List Nat} {z : D} : sgPF t ks (.box true [z]) d N E = (t < GB ∧ d.isPure = true ∧ d.one = true ∧ ks.all (fun z => z != t && z != GB + t) = true ∧ N (zap ks (st1 (st1 E t (.box true [d])) (GB + t) .un))) := by simp [sgPF, isBox1]
def captD (d : D) : Option D := match d with
  | .box _ cs => some (.pt cs)
  | .pt cs => some (.pt cs)
  | _ => none
theorem capt_eq {x : PX} : capt (lk E) x = captD (x.ev (lk E)) := rfl
theorem captD_box {w : Bool} : captD (.box w cs) = some (.pt cs) := rfl
theorem captD_pt : captD (.pt cs) = some (.pt cs) := rfl
theorem ldC_aggc : ldC true n (d :: cs) t N E = (n ≤ (d :: cs).length ∧ N (st1 E t (.agg ((d :: cs).take n)))) := ldC_agg
end ev3

/-! ### lists of structs of strings, of strings -/
/-- the cells of a list whose elements have the cells f -/
def rows {α : Type} (f : α → List D) (l : List α) : List D := l.flatMap f

theorem rows_nil {α : Type} {f : α → List D} : rows f [] = [] := rfl
theorem rows_cons {α : Type} {f : α → List D} {a : α} {l : List α} : rows f (a :: l) = f a ++ rows f l := rfl
theorem rows_append {α : Type} {f : α → List D} {l m : List α} : rows f (l ++ m) = rows f l ++ rows f m := by simp [rows]
theorem rows_snoc {α : Type} {f : α → List D} {l : List α} {a : α} : rows f (l ++ [a]) = rows f l ++ f a := by simp [rows]
theorem rows_length {α : Type} {f : α → List D} {sz : Nat} (hf : ∀ a, (f a).length = sz) (l : List α) : (rows f l).length = l.length * sz := by
  induction l with
  | nil => simp [rows]
  | cons a l ih => rw [rows_cons, List.length_append, ih, hf, List.length_cons, Nat.succ_mul]; omega
theorem rows_drop {α : Type} {f : α → List D} {sz : Nat} (hf : ∀ a, (f a).length = sz) : ∀ (k : Nat) (l : List α), (rows f l).drop (k * sz) = rows f (l.drop k)
  | 0, l => by simp
  | k + 1, [] => by simp [rows]
  | k + 1, a :: l => by
    rw [rows_cons, List.drop_succ_cons, Nat.succ_mul, Nat.add_comm, List.drop_append, List.drop_eq_nil_of_le (by rw [hf]; omega), hf, Nat.add_sub_cancel_left, List.nil_append]
    exact rows_drop hf k l
theorem rows_take {α : Type} {f : α → List D} {sz : Nat} (hf : ∀ a, (f a).length = sz) : ∀ (k : Nat) (l : List α), (rows f l).take (k * sz) = rows f (l.take k)
  | 0, l => by simp [rows]
  | k + 1, [] => by simp [rows]
  | k + 1, a :: l => by
    rw [rows_cons, List.take_succ_cons, rows_cons, Nat.succ_mul, Nat.add_comm, List.take_append, List.take_of_length_le (by rw [hf]; omega), hf, Nat.add_sub_cancel_left, rows_take hf k l]
theorem rows_at {α : Type} {f : α → List D} {sz : Nat} (hf : ∀ a, (f a).length = sz) {l : List α} {k : Nat} {a : α} (h : l[k]? = some a) : ∃ r, (rows f l).drop (k * sz) = f a ++ r := by
  obtain ⟨hk, rfl⟩ := List.getElem?_eq_some_iff.1 h
  rw [rows_drop hf, List.drop_eq_getElem_cons hk, rows_cons]
  exact ⟨_, rfl⟩
theorem cut_rows {α : Type} {f : α → List D} {sz : Nat} (hf : ∀ a, (f a).length = sz) {l : List α} {a b : Nat} : cut sz a b (rows f l) = rows f ((l.take b).drop a) := by
  rw [cut, rows_take hf, rows_drop hf]
theorem ofCells_rows {α : Type} {f : α → List D} {sz : Nat} (hf : ∀ a, (f a).length = sz) {l : List α} {k : Nat} {a : α} (h : l[k]? = some a) : ofCells true sz ((rows f l).drop (k * sz)) = some (.agg (f a)) := by
  obtain ⟨r, e⟩ := rows_at hf h
  rw [e]
  simp [ofCells, hf]

/-- strings as cells -/
def sD (s : List UInt8) : List D := [.str s]
abbrev strs (l : List (List UInt8)) : List D := rows sD l
theorem sD_len (s : List UInt8) : (sD s).length = 1 := rfl
theorem strs_length (l : List (List UInt8)) : (strs l).length = l.length := by rw [rows_length sD_len, Nat.mul_one]
theorem strs_snoc {l : List (List UInt8)} {s : List UInt8} : strs l ++ [.str s] = strs (l ++ [s]) := by simp [strs, rows, sD]
end Go.Pi
