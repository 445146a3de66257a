/-
  OWN ROWS: copy into a part of one. Own work.
-/
import Derived.Test.YtijkmdpdedagdaaGreatDoorEa
import Derived.Test.YtijkmdpdedagdaaGreatDoorEc
set_option linter.unusedVariables false
set_option linter.unusedSimpArgs false
namespace Go.Pi
open Go Go.RowKit
variable {P : Program}

/-- cells copied into an own row, from the element o on -/
theorem run_copy_own (w : World) (dT sT ty e : TypeId) (base sz g N cap o dl dc k : Nat) (a : Addr) (sl sc : Nat) (xs ys : List Value)
    (hu : P.underlying dT = some (.slice e)) (hs : (P.info? e).map (·.size) = some sz) (hown : w.ownsRow base e sz (.slice (some ⟨g, 0, none⟩) N cap) N xs)
    (hk : Nat.min sl dl = k) (hfit : o + k ≤ N) (hl : ys.length = k * sz) (hsrc : ∀ j v, ys[j]? = some v → w.cell? (a.add j) = some v) (h1 : ∀ v ∈ ys, v.oneCell' = true) :
    ∃ w', (Builtin.copy_ #[dT, sT] ty #[.slice (some ⟨g, o * sz, none⟩) dl dc, .slice (some a) sl sc]).run P w = .ok (goInt k) w' ∧
      w'.ownsRow base e sz (.slice (some ⟨g, 0, none⟩) N cap) N (xs.take (o * sz) ++ ys ++ xs.drop (o * sz + k * sz)) ∧ w.grownBy w' (some g) := by
  have hxl := hown.1
  rcases hown.2 with ⟨h2, _⟩ | ⟨g', cap', cur, h2, hbg, hg, hnc, hcm, hcs, htk⟩
  · simp at h2
  · simp only [Value.slice.injEq, Option.some.injEq, Addr.mk.injEq, and_true, true_and] at h2
    obtain ⟨rfl, rfl⟩ := h2
    have hm : o * sz + k * sz ≤ N * sz := by rw [← Nat.add_mul]; exact Nat.mul_le_mul_right _ hfit
    have hm2 : N * sz ≤ cap * sz := Nat.mul_le_mul_right _ hnc
    have hld := run_loadCells_list (P := P) w a ys hsrc
    have hst := run_storeCells_at P g (o * sz) e ys 0 cur w hg (by omega) h1
    simp only [Nat.add_zero] at hst
    generalize hnew : (cur.toList.take (o * sz) ++ ys ++ cur.toList.drop (o * sz + ys.length)).toArray = arr at hst
    have hnl : arr.toList = cur.toList.take (o * sz) ++ ys ++ cur.toList.drop (o * sz + ys.length) := by rw [← hnew]
    have hcl : cur.toList.length = cap * sz := by rw [Array.length_toList]; exact hcs
    refine ⟨w.setRow g arr, ?_, ⟨?_, .inr ⟨g, cap, arr, rfl, hbg, setRow_heap w g cur arr e (0, 0) hg, hnc, hcm, ?_, ?_⟩⟩, ⟨rfl, rfl, rfl, by simp, fun j _ hj => setRow_other w g j arr (fun e => hj (by simp [e]))⟩⟩
    · cases hq : P.info? e with
      | none => simp [hq] at hs
      | some i =>
        have hi : i.size = sz := by simpa [hq] using hs
        rw [hl] at hld
        simp [Builtin.copy_, run_underlying hu, Builtin.lenOf, Builtin.firstCells, sizeOf, typeInfo, hq, hi, hk, hld, hst]
    · rw [List.length_append, List.length_append, List.length_take, List.length_drop, hl, hxl]; omega
    · rw [← Array.length_toList, hnl, List.length_append, List.length_append, List.length_take, List.length_drop, hl, hcl]; omega
    · rw [hnl, hl, ← htk]
      have e1 : (cur.toList.take (o * sz) ++ ys).length = o * sz + k * sz := by rw [List.length_append, List.length_take, hl, hcl]; omega
      rw [List.take_append, e1, List.take_of_length_le (by omega)]
      congr 1
      · rw [List.take_take, Nat.min_eq_left (by omega)]
      · rw [List.drop_take]
/-- where nothing is copied -/
theorem run_copy_zero (w : World) (dT sT ty e : TypeId) (sz : Nat) (d a : Option Addr) (dl dc sl sc : Nat) (hu : P.underlying dT = some (.slice e)) (hs : (P.info? e).map (·.size) = some sz) (hk : Nat.min sl dl = 0) :
    (Builtin.copy_ #[dT, sT] ty #[.slice d dl dc, .slice a sl sc]).run P w = .ok (goInt 0) w := by
  have hl : ∀ (x : Addr), (loadCells x 0).run P w = .ok #[] w := fun x => by simpa using run_loadCells_list (P := P) w x [] (by simp)
  cases hq : P.info? e with
  | none => simp [hq] at hs
  | some i => cases d <;> cases a <;> simp [Builtin.copy_, run_underlying hu, Builtin.lenOf, Builtin.firstCells, sizeOf, typeInfo, hq, hk, storeCells, hl]
/-- the operation copy, its run known -/
theorem wpList_copy (w : World) {ops : Array Oper} {rest : List Oper} {o : Oper} {a : Act} {Q : Exit → Act → World → Prop} (hgd : o.guard = none) (d s : Operand) (t t' : TypeId)
    (ho : o.op = .call { callee := .builtin .copy, args := #[d, s], argTypes := #[t, t'] }) (v u : Value) (hd : a.eval d = v) (hs : a.eval s = u) {v' : Value} {w' : World}
    (hr : (Builtin.copy_ #[t, t'] o.type #[v, u]).run P w = .ok v' w') (h : wpList P ops Q rest (a.put o.dst v') w') : wpList P ops Q (o :: rest) a w :=
  wpList_plain hgd fun _ hK => by
    unfold Oper.wp execOp
    simp only [ho, resolve, invoke, builtin, Sem.run_bind, Sem.run_pure, Result.andThen_ok, List.map_toArray, List.map_cons, List.map_nil, hd, hs, hr]
    exact hK _ _ h
/-- the same at a step of a region whose order is open -/
theorem step_copy {ops : Array Oper} {o : Oper} {a : Act} {w : World} {K : Act → World → Prop} {Q : Exit → Act → World → Prop} {E : Prop}
    (hg : o.guard = none) (d x : Operand) (dT sT : TypeId) (hop : o.op = Op.call { callee := Callee.builtin Builtin.copy, args := #[d, x], argTypes := #[dT, sT] })
    (v u : Value) (hd : a.eval d = v) (hx : a.eval x = u) {v' : Value} {w' : World} (hr : (Builtin.copy_ #[dT, sT] o.type #[v, u]).run P w = .ok v' w') (hK : K (a.put o.dst v') w') :
    if Region.wanted o (yielded ops a.tmps) = true then Oper.wp P o a w K Q else E := by
  have hw : Region.wanted o (yielded ops a.tmps) = true := by simp [Region.wanted, hg]
  rw [if_pos hw]
  unfold Oper.wp execOp
  simp only [hop, resolve, invoke, builtin, Sem.run_bind, Sem.run_pure, Result.andThen_ok, List.map_toArray, List.map_cons, List.map_nil, hd, hx, hr]
  exact hK
end Go.Pi

/-
  lists repeated. Own work.
-/
namespace Go.Pi
open Go Go.RowKit
theorem repl_add {α : Type} (a b : Nat) (l : List α) : (List.replicate (a + b) l).flatten = (List.replicate a l).flatten ++ (List.replicate b l).flatten := by
  induction a with
  | zero => simp
  | succ a ih => rw [Nat.succ_add, List.replicate_succ, List.flatten_cons, ih, List.replicate_succ, List.flatten_cons, List.append_assoc]
theorem repl_len {α : Type} (k : Nat) (l : List α) : ((List.replicate k l).flatten).length = k * l.length := by
  induction k with
  | zero => simp
  | succ k ih => rw [List.replicate_succ, List.flatten_cons, List.length_append, ih, Nat.succ_mul]; omega
/-- a list repeated is periodic -/
theorem repl_take {α : Type} {k q d z : Nat} {l : List α} (hq : q ≤ k) (hz : z = q * l.length) (hd : z + d ≤ k * l.length) :
    ((List.replicate k l).flatten).take (z + d) = ((List.replicate k l).flatten).take z ++ ((List.replicate k l).flatten).take d := by
  obtain ⟨r, rfl⟩ : ∃ r, k = q + r := ⟨k - q, by omega⟩
  have e1 := repl_add q r l
  have e2 : (List.replicate (q + r) l).flatten = (List.replicate r l).flatten ++ (List.replicate q l).flatten := by rw [Nat.add_comm, repl_add]
  have l1 := repl_len q l
  have l2 := repl_len r l
  rw [Nat.add_mul] at hd
  conv => lhs; rw [e1]
  rw [List.take_append, l1, List.take_of_length_le (by omega), show z + d - q * l.length = d by omega]
  congr 1
  · rw [e1, List.take_append, l1, List.take_of_length_le (by omega), show z - q * l.length = 0 by omega]; simp
  · rw [e2, List.take_append, show d - ((List.replicate r l).flatten).length = 0 by omega]; simp
theorem Reps.repl {S : Nat → Nat → Prop} {w : World} {ds : List D} {vs : List Value} (h : Reps S w ds vs) : ∀ k, Reps S w (List.replicate k ds).flatten (List.replicate k vs).flatten
  | 0 => Reps.nil
  | k + 1 => by rw [List.replicate_succ, List.replicate_succ, List.flatten_cons, List.flatten_cons]; exact h.app (Reps.repl h k)
end Go.Pi

/-
  A HEAP OF NUMBERS as container/heap keeps it, and KAHN'S ORDER: plain. Own work.
-/
namespace Go.Tp

/-- two places are exchanged -/
def swp (Q : List Int) (i j : Nat) : List Int := (Q.set i (gz Q j)).set j (gz Q i)
theorem swp_len (Q : List Int) (i j : Nat) : (swp Q i j).length = Q.length := by simp [swp]
theorem getD_gz' {l : List Int} {j : Nat} (h : j < l.length) : l[j] = gz l j := by
  unfold gz; rw [List.getD_eq_getElem?_getD, List.getElem?_eq_getElem h]; rfl
theorem set_perm_x : ∀ (l : List Int) (j : Nat) (x : Int), j < l.length → (l.set j x).Perm (x :: l.eraseIdx j)
  | [], j, _, h => absurd h (Nat.not_lt_zero _)
  | y :: l, 0, x, _ => by simp
  | y :: l, j + 1, x, h => by
    simp only [List.set_cons_succ, List.eraseIdx_cons_succ]
    exact ((set_perm_x l j x (by simpa using h)).cons y).trans (.swap ..)
theorem erase_perm_x : ∀ (l : List Int) (j : Nat) (h : j < l.length), (l[j] :: l.eraseIdx j).Perm l
  | [], j, h => absurd h (Nat.not_lt_zero _)
  | y :: l, 0, _ => by simp
  | y :: l, j + 1, h => by
    simp only [List.getElem_cons_succ, List.eraseIdx_cons_succ]
    exact (List.Perm.swap _ _ _).trans ((erase_perm_x l j (by simpa using h)).cons y)
theorem set_swap_perm : ∀ (l : List Int) (i j : Nat) (hi : i < l.length) (hj : j < l.length), ((l.set i l[j]).set j l[i]).Perm l
  | [], i, _, hi, _ => absurd hi (Nat.not_lt_zero _)
  | x :: l, 0, 0, _, _ => by simp
  | x :: l, 0, j + 1, _, hj => by
    have hj' : j < l.length := by simpa using hj
    simp only [List.set_cons_zero, List.set_cons_succ, List.getElem_cons_succ, List.getElem_cons_zero]
    have h1 := set_perm_x l j x hj'
    have h2 := erase_perm_x l j hj'
    exact (h1.cons _).trans ((List.Perm.swap _ _ _).trans (h2.cons _))
  | x :: l, i + 1, 0, hi, hj => by
    have := set_swap_perm (x :: l) 0 (i + 1) hj hi
    simp only [List.set_cons_zero, List.set_cons_succ, List.getElem_cons_succ, List.getElem_cons_zero] at this ⊢
    exact this
  | x :: l, i + 1, j + 1, hi, hj => by
    simp only [List.set_cons_succ, List.getElem_cons_succ]
    exact (set_swap_perm l i j (by simpa using hi) (by simpa using hj)).cons x
theorem swp_perm {Q : List Int} {i j : Nat} (hi : i < Q.length) (hj : j < Q.length) : (swp Q i j).Perm Q := by
  unfold swp
  rw [← getD_gz' hi, ← getD_gz' hj]
  exact set_swap_perm Q i j hi hj

def upF : Nat → List Int → Nat → List Int
  | 0, Q, _ => Q
  | f + 1, Q, j => if (j - 1) / 2 = j ∨ ¬gz Q j < gz Q ((j - 1) / 2) then Q else upF f (swp Q ((j - 1) / 2) j) ((j - 1) / 2)
/-- the lesser one below -/
def kid (Q : List Int) (i n : Nat) : Nat := if 2 * i + 2 < n ∧ gz Q (2 * i + 2) < gz Q (2 * i + 1) then 2 * i + 2 else 2 * i + 1
def downF : Nat → List Int → Nat → Nat → List Int
  | 0, Q, _, _ => Q
  | f + 1, Q, i, n => if n ≤ 2 * i + 1 ∨ ¬gz Q (kid Q i n) < gz Q i then Q else downF f (swp Q i (kid Q i n)) (kid Q i n) n
theorem upF_perm : ∀ (f : Nat) (Q : List Int) (j : Nat), j < Q.length → (upF f Q j).Perm Q
  | 0, Q, j, _ => .refl _
  | f + 1, Q, j, h => by
    unfold upF
    split
    · exact .refl _
    · have h2 : (j - 1) / 2 < Q.length := by omega
      exact (upF_perm f _ _ (by rw [swp_len]; exact h2)).trans (swp_perm h2 h)
theorem kid_lt {Q : List Int} {i n : Nat} (h : ¬n ≤ 2 * i + 1) : kid Q i n < n ∧ i < kid Q i n := by
  unfold kid; split <;> omega
theorem downF_perm : ∀ (f : Nat) (Q : List Int) (i n : Nat), n ≤ Q.length → (downF f Q i n).Perm Q
  | 0, Q, i, n, _ => .refl _
  | f + 1, Q, i, n, h => by
    unfold downF
    split
    · exact .refl _
    · rename_i hc
      have hk := kid_lt (Q := Q) (i := i) (n := n) fun e => hc (.inl e)
      exact (downF_perm f _ _ _ (by rw [swp_len]; exact h)).trans (swp_perm (by omega) (by omega))
/-- what lies from n on stays -/
theorem downF_tail : ∀ (f : Nat) (Q : List Int) (i n k : Nat), n ≤ Q.length → n ≤ k → gz (downF f Q i n) k = gz Q k
  | 0, Q, i, n, k, _, _ => rfl
  | f + 1, Q, i, n, k, h, hk => by
    unfold downF
    split
    · rfl
    · rename_i hc
      have h2 := kid_lt (Q := Q) (i := i) (n := n) fun e => hc (.inl e)
      rw [downF_tail f _ _ _ _ (by rw [swp_len]; exact h) hk]
      unfold swp
      rw [gz_set (by rw [List.length_set]; omega), gz_set (by omega), if_neg (by omega), if_neg (by omega)]
def pushF (Q : List Int) (x : Int) : List Int := upF (Q.length + 1) (Q ++ [x]) Q.length
theorem pushF_perm (Q : List Int) (x : Int) : (pushF Q x).Perm (Q ++ [x]) := upF_perm _ _ _ (by simp)
theorem pushF_len (Q : List Int) (x : Int) : (pushF Q x).length = Q.length + 1 := by rw [(pushF_perm Q x).length_eq]; simp
def popQ (Q : List Int) : List Int := downF Q.length (swp Q 0 (Q.length - 1)) 0 (Q.length - 1)
def popF (Q : List Int) : List Int := (popQ Q).take (Q.length - 1)
theorem popQ_perm {Q : List Int} (h : 0 < Q.length) : (popQ Q).Perm Q := (downF_perm _ _ _ _ (by rw [swp_len]; omega)).trans (swp_perm h (by omega))
theorem popQ_len {Q : List Int} (h : 0 < Q.length) : (popQ Q).length = Q.length := (popQ_perm h).length_eq
theorem popQ_last {Q : List Int} (h : 0 < Q.length) : gz (popQ Q) (Q.length - 1) = gz Q 0 := by
  unfold popQ
  rw [downF_tail _ _ _ _ _ (by rw [swp_len]; omega) (Nat.le_refl _)]
  unfold swp
  rw [gz_set (by rw [List.length_set]; omega), if_pos rfl]
theorem popF_perm {Q : List Int} (h : 0 < Q.length) : (gz Q 0 :: popF Q).Perm Q := by
  have h1 := popQ_perm h
  have hl := popQ_len h
  have : popQ Q = popF Q ++ [gz Q 0] := by
    rw [← popQ_last h, ← getD_gz' (by omega)]
    have e : (popQ Q).take (Q.length - 1 + 1) = popQ Q := List.take_of_length_le (by omega)
    rw [List.take_add_one, List.getElem?_eq_getElem (by omega)] at e
    exact e.symm
  rw [this] at h1
  exact (List.perm_append_singleton _ _).symm.trans h1

/-! Kahn -/
/-- one arc of the unit that is left out -/
def kahn1 (st : List Int × List Int) (x : Ar) : List Int × List Int :=
  (st.1.set x.b (gz st.1 x.b - 1), if gz st.1 x.b - 1 = 0 then pushF st.2 x.b else st.2)
/-- the state: counts, heap, order -/
structure KS where
  c : List Int
  q : List Int
  o : List Int
def kstep (arcs : List Ar) (s : KS) : KS :=
  let r := (arcs.filter fun y => (y.a : Int) == gz s.q 0).foldl kahn1 (s.c, popF s.q)
  ⟨r.1, r.2, s.o ++ [gz s.q 0]⟩
def kloop (arcs : List Ar) : Nat → KS → KS
  | 0, s => s
  | f + 1, s => if s.q.length = 0 then s else kloop arcs f (kstep arcs s)
def q0F (c : List Int) (n : Nat) : List Int := (List.range n).foldl (fun q i => if gz c i = 0 then pushF q i else q) []

/-- how many of the arcs to j come of units that are not in o -/
def inA (arcs : List Ar) (o : List Int) (j : Nat) : Nat := (arcs.filter fun x => decide (x.b = j ∧ ¬(x.a : Int) ∈ o)).length
/-- the invariant in the middle of a step: r = the arcs of the last unit that are still to do -/
structure KI (n : Nat) (arcs : List Ar) (c q o : List Int) (r : List Ar) : Prop where
  len : c.length = n
  cnt : ∀ j, j < n → gz c j = (inA arcs o j : Int) + ((r.filter fun x => decide (x.b = j)).length : Int)
  nd : (o ++ q).Nodup
  bd : ∀ x ∈ o ++ q, ∃ j : Nat, j < n ∧ x = j
  zero : ∀ j : Nat, j < n → ((j : Int) ∈ o ++ q ↔ gz c j = 0)
theorem KI.arc {n : Nat} {arcs : List Ar} {c q o : List Int} {x : Ar} {r : List Ar} (h : KI n arcs c q o (x :: r)) (hx : ArOk n x) : KI n arcs (kahn1 (c, q) x).1 (kahn1 (c, q) x).2 o r := by
  obtain ⟨h1, h2, h3, h4, h5⟩ := h
  have hb := hx.2
  have e := h2 x.b hb
  simp only [List.filter_cons, decide_true, if_true, List.length_cons] at e
  have hpos : 0 < gz c x.b := by omega
  have hnb : ¬(x.b : Int) ∈ o ++ q := fun hm => by have := (h5 x.b hb).1 hm; omega
  have hg : ∀ k, gz (c.set x.b (gz c x.b - 1)) k = if x.b = k then gz c x.b - 1 else gz c k := fun k => gz_set (by omega)
  have hcnt : ∀ j, j < n → gz (c.set x.b (gz c x.b - 1)) j = (inA arcs o j : Int) + ((r.filter fun y => decide (y.b = j)).length : Int) := by
    intro j hj
    rw [hg]
    have ej := h2 j hj
    rw [List.filter_cons] at ej
    by_cases hbj : x.b = j
    · subst hbj
      rw [if_pos rfl]; rw [if_pos (by simp)] at ej
      rw [List.length_cons] at ej; omega
    · rw [if_neg hbj]; rw [if_neg (by simpa using hbj)] at ej; exact ej
  unfold kahn1
  dsimp only
  by_cases hz : gz c x.b - 1 = 0
  · rw [if_pos hz]
    have hp : (o ++ pushF q x.b).Perm (o ++ q ++ [(x.b : Int)]) := by
      rw [List.append_assoc]; exact (pushF_perm q x.b).append_left o
    refine ⟨by rw [List.length_set]; exact h1, hcnt, hp.nodup_iff.2 ?_, fun y hy => ?_, fun j hj => ?_⟩
    · rw [List.nodup_append]
      exact ⟨h3, by simp, fun a ha b hb' => by rw [List.mem_singleton] at hb'; subst hb'; intro e; subst e; exact hnb ha⟩
    · rw [hp.mem_iff, List.mem_append] at hy
      rcases hy with hy | hy
      · exact h4 y hy
      · exact ⟨x.b, hb, List.mem_singleton.1 hy⟩
    · rw [hp.mem_iff, List.mem_append, List.mem_singleton, h5 j hj, hg]
      by_cases hbj : x.b = j
      · subst hbj; rw [if_pos rfl]; exact ⟨fun _ => hz, fun _ => .inr rfl⟩
      · rw [if_neg hbj]; exact ⟨fun e => e.elim id (fun e => absurd (by omega) hbj), .inl⟩
  · rw [if_neg hz]
    refine ⟨by rw [List.length_set]; exact h1, hcnt, h3, h4, fun j hj => ?_⟩
    rw [h5 j hj, hg]
    by_cases hbj : x.b = j
    · subst hbj; rw [if_pos rfl]; omega
    · rw [if_neg hbj]
theorem KI.fold {n : Nat} {arcs : List Ar} {o : List Int} : ∀ (r : List Ar) {c q : List Int}, KI n arcs c q o r → (∀ x ∈ r, ArOk n x) → KI n arcs (r.foldl kahn1 (c, q)).1 (r.foldl kahn1 (c, q)).2 o []
  | [], c, q, h, _ => h
  | x :: r, c, q, h, hr => by
    have := KI.fold r (h.arc (hr x (List.mem_cons_self ..))) fun y hy => hr y (List.mem_cons_of_mem _ hy)
    simpa using this
/-- the first unit is taken -/
theorem KI.pop {n : Nat} {arcs : List Ar} {c q o : List Int} (h : KI n arcs c q o []) (hq : 0 < q.length) : KI n arcs c (popF q) (o ++ [gz q 0]) (arcs.filter fun y => (y.a : Int) == gz q 0) := by
  obtain ⟨h1, h2, h3, h4, h5⟩ := h
  have hp : (o ++ [gz q 0] ++ popF q).Perm (o ++ q) := by
    rw [List.append_assoc]; exact (popF_perm hq).append_left o
  refine ⟨h1, fun j hj => ?_, hp.nodup_iff.2 h3, fun x hx => h4 x (hp.mem_iff.1 hx), fun j hj => by rw [hp.mem_iff]; exact h5 j hj⟩
  have hno : ¬gz q 0 ∈ o := by
    have hm : gz q 0 ∈ q := by rw [← getD_gz' hq]; exact List.getElem_mem _
    intro e
    rw [List.nodup_append] at h3
    exact h3.2.2 _ e _ hm rfl
  rw [h2 j hj]
  simp only [List.filter_nil, List.length_nil]
  unfold inA
  rw [List.filter_filter]
  have key : ∀ l : List Ar, (l.filter fun x => decide (x.b = j ∧ ¬(x.a : Int) ∈ o)).length = (l.filter fun x => decide (x.b = j ∧ ¬(x.a : Int) ∈ o ++ [gz q 0])).length + (l.filter fun x => (decide (x.b = j) && ((x.a : Int) == gz q 0))).length := by
    intro l
    induction l with
    | nil => rfl
    | cons x l ih =>
      simp only [List.filter_cons]
      by_cases e1 : x.b = j
      · by_cases e2 : (x.a : Int) = gz q 0
        · simp [e1, e2, hno]
          simp at ih; omega
        · by_cases e3 : (x.a : Int) ∈ o
          · simp [e1, e2, e3]; simp at ih; omega
          · simp [e1, e2, e3]; simp at ih; omega
      · simp [e1]; simp at ih; omega
  have := key arcs
  omega
theorem KI.step {n : Nat} {arcs : List Ar} (ha : ∀ x ∈ arcs, ArOk n x) {s : KS} (h : KI n arcs s.c s.q s.o []) (hq : 0 < s.q.length) : KI n arcs (kstep arcs s).c (kstep arcs s).q (kstep arcs s).o [] :=
  KI.fold _ (h.pop hq) fun x hx => ha x (List.mem_filter.1 hx).1
theorem nodup_bd : ∀ (n : Nat) (l : List Int), l.Nodup → (∀ x ∈ l, ∃ j : Nat, j < n ∧ x = j) → l.length ≤ n
  | 0, l, _, h => by
    cases l with
    | nil => simp
    | cons x l => obtain ⟨j, hj, _⟩ := h x (List.mem_cons_self ..); omega
  | n + 1, l, hd, h => by
    have h1 := nodup_bd n (l.erase n) (hd.erase _) fun x hx => by
      obtain ⟨j, hj, rfl⟩ := h x (List.mem_of_mem_erase hx)
      refine ⟨j, ?_, rfl⟩
      have : (j : Int) ≠ n := fun e => by rw [e] at hx; exact (hd.not_mem_erase) hx
      omega
    rw [List.length_erase] at h1
    split at h1 <;> omega
theorem KI.bound {n : Nat} {arcs : List Ar} {c q o : List Int} {r : List Ar} (h : KI n arcs c q o r) : o.length + q.length ≤ n := by
  have := nodup_bd n (o ++ q) h.nd h.bd
  rwa [List.length_append] at this
/-- enough rounds -/
theorem kloop_more {n : Nat} {arcs : List Ar} (ha : ∀ x ∈ arcs, ArOk n x) : ∀ (f g : Nat) (s : KS), KI n arcs s.c s.q s.o [] → n < f + s.o.length → n < g + s.o.length → kloop arcs f s = kloop arcs g s
  | 0, _, s, h, h1, _ => by have := h.bound; omega
  | _ + 1, 0, s, h, _, h1 => by have := h.bound; omega
  | f + 1, g + 1, s, h, h1, h2 => by
    unfold kloop
    split
    · rfl
    · rename_i hq
      have h3 := KI.step ha h (by omega)
      have hl : (kstep arcs s).o.length = s.o.length + 1 := by simp [kstep]
      exact kloop_more ha f g _ h3 (by omega) (by omega)
end Go.Tp
