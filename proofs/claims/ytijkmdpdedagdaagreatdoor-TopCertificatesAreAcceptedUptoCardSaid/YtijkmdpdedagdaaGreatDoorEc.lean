/-
  NAMES put in order, each once: plain. Own work.
-/
import Derived.Test.YtijkmdpdedagdaaGreatDoorPi
import Derived.Lib.SlicesCompact
set_option linter.unusedVariables false
set_option linter.unusedSimpArgs false
namespace Go.Tp

/-- into its place among the others, if it is not there yet -/
def ins (x : List UInt8) : List (List UInt8) → List (List UInt8)
  | [] => [x]
  | y :: l => if x < y then x :: y :: l else if x = y then y :: l else y :: ins x l
def usort : List (List UInt8) → List (List UInt8)
  | [] => []
  | x :: l => ins x (usort l)
theorem lt_tot (x y : List UInt8) : x < y ∨ x = y ∨ y < x := by
  rcases List.le_total x y with h | h
  · by_cases e : x = y
    · exact .inr (.inl e)
    · exact .inl (by
        rcases Classical.em (x < y) with h2 | h2
        · exact h2
        · exact absurd (List.le_antisymm h (List.not_lt.1 h2)) e)
  · by_cases e : x = y
    · exact .inr (.inl e)
    · exact .inr (.inr (by
        rcases Classical.em (y < x) with h2 | h2
        · exact h2
        · exact absurd (List.le_antisymm (List.not_lt.1 h2) h) e))
theorem ins_mem {x z : List UInt8} : ∀ {l : List (List UInt8)}, z ∈ ins x l ↔ z = x ∨ z ∈ l
  | [] => by simp [ins]
  | y :: l => by
    unfold ins
    split
    · simp
    · split
      · rename_i h; subst h; simp
      · rw [List.mem_cons, ins_mem, List.mem_cons]; grind
theorem ins_sorted {x : List UInt8} : ∀ {l : List (List UInt8)}, l.Pairwise (· < ·) → (ins x l).Pairwise (· < ·)
  | [], _ => by simp [ins]
  | y :: l, h => by
    rw [List.pairwise_cons] at h
    unfold ins
    split
    · rename_i hx
      rw [List.pairwise_cons]
      refine ⟨fun z hz => ?_, by rw [List.pairwise_cons]; exact h⟩
      rcases List.mem_cons.1 hz with rfl | hz
      · exact hx
      · exact List.lt_trans hx (h.1 z hz)
    · split
      · rw [List.pairwise_cons]; exact h
      · rename_i h1 h2
        rw [List.pairwise_cons]
        refine ⟨fun z hz => ?_, ins_sorted h.2⟩
        rcases ins_mem.1 hz with rfl | hz
        · rcases lt_tot y z with h3 | h3 | h3
          · exact h3
          · exact absurd h3.symm h2
          · exact absurd h3 h1
        · exact h.1 z hz
theorem usort_sorted : ∀ l : List (List UInt8), (usort l).Pairwise (· < ·)
  | [] => .nil
  | _ :: l => ins_sorted (usort_sorted l)
theorem usort_mem {z : List UInt8} : ∀ {l : List (List UInt8)}, z ∈ usort l ↔ z ∈ l
  | [] => Iff.rfl
  | x :: l => by
    show z ∈ ins x (usort l) ↔ _
    rw [ins_mem, usort_mem, List.mem_cons]
/-- a strictly rising list is known by its members -/
theorem sorted_ext : ∀ {l m : List (List UInt8)}, l.Pairwise (· < ·) → m.Pairwise (· < ·) → (∀ z, z ∈ l ↔ z ∈ m) → l = m
  | [], [], _, _, _ => rfl
  | [], y :: m, _, _, h => absurd ((h y).2 (List.mem_cons_self ..)) (by simp)
  | x :: l, [], _, _, h => absurd ((h x).1 (List.mem_cons_self ..)) (by simp)
  | x :: l, y :: m, h1, h2, h => by
    rw [List.pairwise_cons] at h1 h2
    have irr : ∀ z : List UInt8, ¬z < z := fun z => List.lt_irrefl z
    have hxy : x = y := by
      rcases List.mem_cons.1 ((h x).1 (List.mem_cons_self ..)) with e | e
      · exact e
      · rcases List.mem_cons.1 ((h y).2 (List.mem_cons_self ..)) with e2 | e2
        · exact e2.symm
        · exact absurd (List.lt_trans (h1.1 y e2) (h2.1 x e)) (irr x)
    subst hxy
    refine congrArg (x :: ·) (sorted_ext h1.2 h2.2 fun z => ?_)
    have hz := h z
    rw [List.mem_cons, List.mem_cons] at hz
    constructor
    · intro e
      rcases hz.1 (.inr e) with rfl | e2
      · exact absurd (h1.1 z e) (irr z)
      · exact e2
    · intro e
      rcases hz.2 (.inr e) with rfl | e2
      · exact absurd (h2.1 z e) (irr z)
      · exact e2
end Go.Tp

/-
  NAMES put in order by the library: the sorted list without repeats is usort. Own work.
-/
namespace Go.Tp
open Go.Lib

theorem snocRec {α : Type} {P : List α → Prop} (h0 : P []) (h1 : ∀ l x, P l → P (l ++ [x])) (l : List α) : P l := by
  rw [← List.reverse_reverse l]
  induction l.reverse with
  | nil => exact h0
  | cons x r ih => rw [List.reverse_cons]; exact h1 _ _ ih
section
variable {α : Type} [Inhabited α] [DecidableEq α]
theorem compactUpTo_congr {d e : Array α} : ∀ {m : Nat}, (∀ j, j < m → d[j]! = e[j]!) → compactUpTo d m = compactUpTo e m
  | 0, _ => rfl
  | m + 1, h => by
    rw [compactUpTo_succ, compactUpTo_succ, compactUpTo_congr (fun j hj => h j (by omega)), h m (by omega)]
    have : keeps d m = keeps e m := by
      unfold keeps
      rw [h m (by omega)]
      by_cases hm : m = 0
      · simp [hm]
      · rw [h (m - 1) (by omega)]
    rw [this]
theorem compact_snoc (l : List α) (x : α) : compact (l ++ [x]) = if l.getLast? = some x then compact l else compact l ++ [x] := by
  unfold compact
  rw [List.length_append, List.length_singleton, compactUpTo_succ, compactUpTo_congr (e := l.toArray) (fun j hj => by
    rw [getElem!_pos _ j (by simp; omega), getElem!_pos _ j (by simpa using hj)]; simp [hj])]
  have hx : (l ++ [x]).toArray[l.length]! = x := by rw [getElem!_pos _ _ (by simp)]; simp
  rw [hx]
  by_cases hl : l = []
  · subst hl; simp [keeps, compactUpTo]
  · have hpos : 0 < l.length := List.length_pos_iff.2 hl
    have hk : keeps (l ++ [x]).toArray l.length = decide (x ≠ l.getLast hl) := by
      unfold keeps
      rw [hx, getElem!_pos _ (l.length - 1) (by simp; omega)]
      have : (l ++ [x]).toArray[l.length - 1]'(by simp; omega) = l.getLast hl := by
        simp [List.getLast_eq_getElem, List.getElem_append, show l.length - 1 < l.length by omega]
      rw [this]
      simp [hl]
    rw [hk, List.getLast?_eq_some_getLast hl]
    by_cases he : l.getLast hl = x
    · simp [he]
    · simp [he, Ne.symm he]
theorem compact_mem {z : α} (l : List α) : z ∈ compact l ↔ z ∈ l := by
  refine snocRec (P := fun l => z ∈ compact l ↔ z ∈ l) ?_ ?_ l
  · simp [compact, compactUpTo]
  · intro l x ih
    rw [compact_snoc]
    split
    · rename_i h
      have : x ∈ l := List.mem_of_getLast? h
      rw [ih]; grind
    · simp [ih]
end
theorem compact_sorted (l : List (List UInt8)) (h : l.Pairwise (· ≤ ·)) : (compact l).Pairwise (· < ·) := by
  revert h
  refine snocRec (P := fun l => l.Pairwise (· ≤ ·) → (compact l).Pairwise (· < ·)) ?_ ?_ l
  · intro _; simp [compact, compactUpTo]
  · intro l x ih h
    rw [List.pairwise_append] at h
    rw [compact_snoc]
    split
    · exact ih h.1
    · rename_i hne
      rw [List.pairwise_append]
      refine ⟨ih h.1, by simp, fun y hy z hz => ?_⟩
      rw [List.mem_singleton] at hz; subst hz
      have hyl := (compact_mem l).1 hy
      have hle : y ≤ z := h.2.2 y hyl z (by simp)
      rcases lt_tot y z with e | e | e
      · exact e
      · subst e
        exfalso
        apply hne
        -- y is in l and all of l is at most the last of l, which is at most y
        have hl : l ≠ [] := fun e => by rw [e] at hyl; cases hyl
        rw [List.getLast?_eq_some_getLast hl]
        have h1 : y ≤ l.getLast hl := by
          have := h.1
          rcases List.mem_iff_getElem.1 hyl with ⟨i, hi, rfl⟩
          rw [List.getLast_eq_getElem]
          by_cases e : i = l.length - 1
          · subst e; exact List.le_refl _
          · exact (List.pairwise_iff_getElem.1 this) i (l.length - 1) hi (by omega) (by omega)
        have h2 : l.getLast hl ≤ y := h.2.2 _ (List.getLast_mem hl) y (by simp)
        rw [List.le_antisymm h2 h1]
      · exact absurd e (List.not_lt.2 hle)
/-- sorted and compacted -/
theorem compact_sort (l : List (List UInt8)) : compact (l.mergeSort fun x y => decide (x ≤ y)) = usort l := by
  have hs : (l.mergeSort fun x y => decide (x ≤ y)).Pairwise (· ≤ ·) := by
    have := List.pairwise_mergeSort (le := fun x y : List UInt8 => decide (x ≤ y)) (fun a b c h1 h2 => by simp at *; exact List.le_trans h1 h2) (fun a b => by simp; exact List.le_total a b) l
    exact this.imp fun h => by simpa using h
  refine sorted_ext (compact_sorted _ hs) (usort_sorted l) fun z => ?_
  rw [compact_mem, usort_mem]
  exact (List.mergeSort_perm ..).mem_iff
end Go.Tp

/-
  DISTANCES by relaxing arcs until nothing changes: plain; it ends. Own work.
-/
namespace Go.Tp

/-- an arc: its index, its lower and its upper unit -/
structure Ar where
  i : Nat
  a : Nat
  b : Nat
deriving DecidableEq
/-- the value at a place -/
def gz (l : List Int) (j : Nat) : Int := l.getD j (-1)
def rlxP (above : Int) (o : List Int) (x : Ar) : Prop := above < x.i ∧ 0 ≤ gz o x.b ∧ (gz o x.a < 0 ∨ gz o x.b + 1 < gz o x.a)
instance (above : Int) (o : List Int) (x : Ar) : Decidable (rlxP above o x) := by unfold rlxP; infer_instance
def rlx1 (above : Int) (st : List Int × Bool) (x : Ar) : List Int × Bool := if rlxP above st.1 x then (st.1.set x.a (gz st.1 x.b + 1), true) else st
def passF (above : Int) (arcs : List Ar) (o : List Int) : List Int × Bool := arcs.foldl (rlx1 above) (o, false)
def distG (above : Int) (arcs : List Ar) : Nat → List Int → List Int
  | 0, o => o
  | f + 1, o => if (passF above arcs o).2 then distG above arcs f (passF above arcs o).1 else (passF above arcs o).1
/-- how much may still change -/
def wt (n : Nat) (v : Int) : Nat := if v < 0 then n + 1 else v.toNat
def msr (n : Nat) (o : List Int) : Nat := (o.map (wt n)).sum
def cnt (o : List Int) : Nat := o.countP fun v => decide (0 ≤ v)
theorem sum_set (f : Int → Nat) : ∀ (l : List Int) (j : Nat) (v : Int), j < l.length → ((l.set j v).map f).sum + f (gz l j) = (l.map f).sum + f v
  | x :: l, 0, v, _ => by simp [gz]; omega
  | x :: l, j + 1, v, h => by
    have ih := sum_set f l j v (by simpa using h)
    simp only [List.set_cons_succ, List.map_cons, List.sum_cons]
    have : gz (x :: l) (j + 1) = gz l j := by simp [gz]
    rw [this]; omega
theorem cnt_set : ∀ (l : List Int) (j : Nat) (v : Int), j < l.length → 0 ≤ v → cnt (l.set j v) + (if 0 ≤ gz l j then 1 else 0) = cnt l + 1
  | x :: l, 0, v, _, hv => by
    have e : gz (x :: l) 0 = x := by simp [gz]
    rw [e]
    unfold cnt
    simp only [List.set_cons_zero, List.countP_cons, decide_eq_true_eq, hv, if_true]
    split <;> omega
  | x :: l, j + 1, v, h, hv => by
    have ih := cnt_set l j v (by simpa using h) hv
    have e : gz (x :: l) (j + 1) = gz l j := by simp [gz]
    rw [e]
    unfold cnt at *
    simp only [List.set_cons_succ, List.countP_cons]
    omega
structure DOk (n : Nat) (o : List Int) : Prop where
  len : o.length = n
  lo : ∀ j, j < n → -1 ≤ gz o j
  hi : ∀ j, j < n → gz o j < cnt o
theorem cnt_le (o : List Int) : cnt o ≤ o.length := List.countP_le_length
theorem gz_set {l : List Int} {j k : Nat} {v : Int} (h : j < l.length) : gz (l.set j v) k = if j = k then v else gz l k := by
  unfold gz
  rw [List.getD_eq_getElem?_getD, List.getD_eq_getElem?_getD, List.getElem?_set]
  by_cases e : j = k
  · subst e; simp [h]
  · simp [e]
def ArOk (n : Nat) (x : Ar) : Prop := x.a < n ∧ x.b < n
theorem rlx_step {n : Nat} {above : Int} {o : List Int} {x : Ar} (h : DOk n o) (hx : ArOk n x) (hr : rlxP above o x) : DOk n (o.set x.a (gz o x.b + 1)) ∧ msr n (o.set x.a (gz o x.b + 1)) < msr n o := by
  obtain ⟨h1, h2, h3⟩ := h
  obtain ⟨ha, hb⟩ := hx
  obtain ⟨_, r2, r3⟩ := hr
  have hv : 0 ≤ gz o x.b + 1 := by omega
  have hc := cnt_set o x.a (gz o x.b + 1) (by omega) hv
  have hcl := cnt_le o
  have hbc := h3 x.b hb
  refine ⟨⟨by rw [List.length_set]; exact h1, fun j hj => ?_, fun j hj => ?_⟩, ?_⟩
  · rw [gz_set (by omega)]; split
    · omega
    · exact h2 j hj
  · rw [gz_set (by omega)]
    have hj3 := h3 j hj
    split
    · rcases r3 with r3 | r3
      · rw [if_neg (by omega)] at hc; omega
      · have := h3 x.a ha
        split at hc <;> omega
    · split at hc <;> omega
  · have hs := sum_set (wt n) o x.a (gz o x.b + 1) (by omega)
    unfold msr
    have h5 : wt n (gz o x.b + 1) < wt n (gz o x.a) := by
      unfold wt
      rw [if_neg (by omega)]
      rcases r3 with r3 | r3
      · rw [if_pos r3]; omega
      · rw [if_neg (by omega)]; omega
    omega
theorem rlx1_ok {n : Nat} {above : Int} {st : List Int × Bool} {x : Ar} (h : DOk n st.1) (hx : ArOk n x) : DOk n (rlx1 above st x).1 ∧ msr n (rlx1 above st x).1 ≤ msr n st.1 ∧ ((rlx1 above st x).2 = true → st.2 = true ∨ msr n (rlx1 above st x).1 < msr n st.1) := by
  unfold rlx1
  split
  · rename_i hr
    obtain ⟨h1, h2⟩ := rlx_step h hx hr
    exact ⟨h1, Nat.le_of_lt h2, fun _ => .inr h2⟩
  · exact ⟨h, Nat.le_refl _, fun e => .inl e⟩
theorem fold_ok {n : Nat} {above : Int} : ∀ (arcs : List Ar) (st : List Int × Bool), (∀ x ∈ arcs, ArOk n x) → DOk n st.1 → DOk n (arcs.foldl (rlx1 above) st).1 ∧ msr n (arcs.foldl (rlx1 above) st).1 ≤ msr n st.1 ∧ ((arcs.foldl (rlx1 above) st).2 = true → st.2 = true ∨ msr n (arcs.foldl (rlx1 above) st).1 < msr n st.1)
  | [], st, _, h => ⟨h, Nat.le_refl _, fun e => .inl e⟩
  | x :: arcs, st, ha, h => by
    obtain ⟨h1, h2, h3⟩ := rlx1_ok (above := above) h (ha x (List.mem_cons_self ..))
    obtain ⟨h4, h5, h6⟩ := fold_ok arcs (rlx1 above st x) (fun y hy => ha y (List.mem_cons_of_mem _ hy)) h1
    rw [List.foldl_cons]
    refine ⟨h4, by omega, fun e => ?_⟩
    rcases h6 e with e | e
    · rcases h3 e with e | e
      · exact .inl e
      · exact .inr (by omega)
    · exact .inr (by omega)
theorem pass_ok {n : Nat} {above : Int} {arcs : List Ar} {o : List Int} (ha : ∀ x ∈ arcs, ArOk n x) (h : DOk n o) : DOk n (passF above arcs o).1 ∧ ((passF above arcs o).2 = true → msr n (passF above arcs o).1 < msr n o) := by
  obtain ⟨h1, _, h3⟩ := fold_ok (above := above) arcs (o, false) ha h
  exact ⟨h1, fun e => (h3 e).resolve_left (by simp)⟩
/-- the beginning: one unit at 0 -/
def one0 (n to : Nat) : List Int := (List.replicate n (-1)).set to 0
theorem one0_ok {n to : Nat} (h : to < n) : DOk n (one0 n to) := by
  have hl : (List.replicate n (-1 : Int)).length = n := by simp
  have hg : ∀ j, gz (List.replicate n (-1 : Int)) j = -1 := fun j => by
    unfold gz
    rw [List.getD_eq_getElem?_getD, List.getElem?_replicate]
    split <;> rfl
  have hc := cnt_set (List.replicate n (-1)) to 0 (by omega) (by omega)
  rw [hg, if_neg (by omega)] at hc
  refine ⟨by simp [one0], fun j hj => ?_, fun j hj => ?_⟩
  · unfold one0; rw [gz_set (by omega), hg]; split <;> omega
  · unfold one0; rw [gz_set (by omega), hg]; split <;> omega
/-- the distances -/
def distF (n : Nat) (arcs : List Ar) (to : Nat) (above : Int) : List Int := distG above arcs (n * (n + 1) + 1) (one0 n to)
theorem msr_le {n : Nat} {o : List Int} (h : DOk n o) : msr n o ≤ n * (n + 1) := by
  have key : ∀ (l : List Int) (m : Nat), (∀ v ∈ l, wt n v ≤ m) → (l.map (wt n)).sum ≤ l.length * m := by
    intro l m
    induction l with
    | nil => intro _; simp
    | cons x l ih =>
      intro hh
      have h1 := hh x (List.mem_cons_self ..)
      have h2 := ih fun v hv => hh v (List.mem_cons_of_mem _ hv)
      rw [List.map_cons, List.sum_cons, List.length_cons, Nat.add_mul]; omega
  have := key o (n + 1) fun v hv => by
    obtain ⟨j, hj⟩ := List.getElem?_of_mem hv
    have hjl := (List.getElem?_eq_some_iff.1 hj).1
    have e : gz o j = v := by unfold gz; rw [List.getD_eq_getElem?_getD, hj]; rfl
    have h3 := h.hi j (by rw [← h.len]; exact hjl)
    have h4 := cnt_le o
    have h5 := h.len
    unfold wt
    split <;> omega
  unfold msr
  rw [h.len] at this
  exact this
end Go.Tp
