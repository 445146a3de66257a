/-
  DISTANCES: what the relaxed numbers are; the smallest cycle: plain. Own work.
-/
import Derived.Test.YtijkmdpdedagdaaGreatDoorEc
set_option linter.unusedVariables false
set_option linter.unusedSimpArgs false
namespace Go.Tp
/-- what holds while arcs are relaxed -/
structure DSup (arcs : List Ar) (n to : Nat) (above : Int) (o : List Int) : Prop where
  ok : DOk n o
  zero : gz o to = 0
  sup : ∀ u, u < n → u ≠ to → 0 ≤ gz o u → ∃ x ∈ arcs, above < x.i ∧ x.a = u ∧ 0 ≤ gz o x.b ∧ gz o x.b + 1 ≤ gz o u
theorem DSup.rlx {arcs : List Ar} {n to : Nat} {above : Int} (hto : to < n) {st : List Int × Bool} {x : Ar} (h : DSup arcs n to above st.1) (hx : x ∈ arcs) (hok : ArOk n x) : DSup arcs n to above (rlx1 above st x).1 := by
  have hk := (rlx1_ok (above := above) h.ok hok).1
  unfold rlx1 at *
  split
  · rename_i hr
    rw [if_pos hr] at hk
    show DSup arcs n to above (st.1.set x.a (gz st.1 x.b + 1))
    obtain ⟨r1, r2, r3⟩ := hr
    have hlen := h.ok.len
    have hat : x.a ≠ to := by
      intro e
      rw [e, h.zero] at r3
      omega
    have hg : ∀ k, gz (st.1.set x.a (gz st.1 x.b + 1)) k = if x.a = k then gz st.1 x.b + 1 else gz st.1 k := fun k => gz_set (by rw [hlen]; exact hok.1)
    -- nothing grows but from below 0
    have hle : ∀ k, 0 ≤ gz st.1 k → 0 ≤ gz (st.1.set x.a (gz st.1 x.b + 1)) k ∧ gz (st.1.set x.a (gz st.1 x.b + 1)) k ≤ gz st.1 k := fun k hk => by
      rw [hg]
      split
      · rename_i e; subst e; omega
      · omega
    refine ⟨hk, by rw [hg, if_neg hat]; exact h.zero, fun u hu hut h0 => ?_⟩
    by_cases e : x.a = u
    · subst e
      refine ⟨x, hx, r1, rfl, (hle _ r2).1, ?_⟩
      have h1 := (hle _ r2).2
      have h2 : gz (st.1.set x.a (gz st.1 x.b + 1)) x.a = gz st.1 x.b + 1 := by rw [hg, if_pos rfl]
      omega
    · rw [hg, if_neg e] at h0
      obtain ⟨y, hy, y1, y2, y3, y4⟩ := h.sup u hu hut h0
      refine ⟨y, hy, y1, y2, (hle _ y3).1, ?_⟩
      have := (hle _ y3).2
      rw [hg u, if_neg e]; omega
  · exact h
theorem DSup.fold {arcs : List Ar} {n to : Nat} {above : Int} (hto : to < n) : ∀ (l : List Ar) (st : List Int × Bool), (∀ x ∈ l, x ∈ arcs ∧ ArOk n x) → DSup arcs n to above st.1 → DSup arcs n to above (l.foldl (rlx1 above) st).1
  | [], st, _, h => h
  | x :: l, st, hl, h => DSup.fold hto l _ (fun y hy => hl y (List.mem_cons_of_mem _ hy)) (h.rlx hto (hl x (List.mem_cons_self ..)).1 (hl x (List.mem_cons_self ..)).2)
theorem rlx_flag {above : Int} : ∀ (l : List Ar) (st : List Int × Bool), (l.foldl (rlx1 above) st).2 = false → st.2 = false ∧ (l.foldl (rlx1 above) st).1 = st.1 ∧ ∀ x ∈ l, ¬rlxP above st.1 x
  | [], st, h => ⟨h, rfl, fun _ hx => by cases hx⟩
  | x :: l, st, h => by
    rw [List.foldl_cons] at h
    obtain ⟨h1, h2, h3⟩ := rlx_flag l _ h
    rw [List.foldl_cons]
    by_cases hr : rlxP above st.1 x
    · unfold rlx1 at h1
      rw [if_pos hr] at h1
      cases h1
    · have e : rlx1 above st x = st := by unfold rlx1; rw [if_neg hr]
      rw [e] at h1 h2 h3 ⊢
      refine ⟨h1, h2, fun y hy => ?_⟩
      rcases List.mem_cons.1 hy with rfl | hy
      · exact hr
      · exact h3 y hy
/-- the end: nothing can be relaxed -/
theorem distG_end {arcs : List Ar} {n to : Nat} {above : Int} (hto : to < n) (ha : ∀ x ∈ arcs, ArOk n x) : ∀ (f : Nat) (o : List Int), DSup arcs n to above o → msr n o < f → DSup arcs n to above (distG above arcs f o) ∧ ∀ x ∈ arcs, ¬rlxP above (distG above arcs f o) x
  | 0, o, _, h => by omega
  | f + 1, o, h, hm => by
    have h1 : DSup arcs n to above (passF above arcs o).1 := DSup.fold hto arcs (o, false) (fun x hx => ⟨hx, ha x hx⟩) h
    unfold distG
    by_cases e : (passF above arcs o).2 = true
    · rw [if_pos e]
      have := (pass_ok (above := above) ha h.ok).2 e
      exact distG_end hto ha f _ h1 (by omega)
    · rw [if_neg e]
      have h2 := rlx_flag (above := above) arcs (o, false) (by cases hh : (arcs.foldl (rlx1 above) (o, false)).2 with
        | false => rfl
        | true => exact absurd hh e)
      refine ⟨h1, ?_⟩
      show ∀ x ∈ arcs, ¬rlxP above (arcs.foldl (rlx1 above) (o, false)).1 x
      rw [h2.2.1]; exact h2.2.2
theorem one0_sup {arcs : List Ar} {n to : Nat} {above : Int} (hto : to < n) : DSup arcs n to above (one0 n to) := by
  have hg : ∀ j, gz (List.replicate n (-1 : Int)) j = -1 := fun j => by
    unfold gz
    rw [List.getD_eq_getElem?_getD, List.getElem?_replicate]
    split <;> rfl
  have hg2 : ∀ j, gz (one0 n to) j = if to = j then 0 else -1 := fun j => by
    unfold one0; rw [gz_set (by simpa using hto), hg]
  refine ⟨one0_ok hto, by rw [hg2, if_pos rfl], fun u _ hut h0 => ?_⟩
  rw [hg2, if_neg (Ne.symm hut)] at h0
  omega
/-- WHAT THE DISTANCES ARE -/
structure DF (arcs : List Ar) (n to : Nat) (above : Int) (d : List Int) : Prop where
  len : d.length = n
  zero : gz d to = 0
  le : ∀ x ∈ arcs, above < x.i → 0 ≤ gz d x.b → 0 ≤ gz d x.a ∧ gz d x.a ≤ gz d x.b + 1
  sup : ∀ u, u < n → u ≠ to → 0 ≤ gz d u → ∃ x ∈ arcs, above < x.i ∧ x.a = u ∧ 0 ≤ gz d x.b ∧ gz d u = gz d x.b + 1
  lo : ∀ j, j < n → -1 ≤ gz d j
  hi : ∀ j, j < n → gz d j < n
theorem distF_df {arcs : List Ar} {n to : Nat} {above : Int} (hto : to < n) (ha : ∀ x ∈ arcs, ArOk n x) : DF arcs n to above (distF n arcs to above) := by
  have hm := msr_le (one0_ok hto)
  obtain ⟨h1, h2⟩ := distG_end hto ha (n * (n + 1) + 1) (one0 n to) (one0_sup (above := above) hto) (by omega)
  have hle : ∀ x ∈ arcs, above < x.i → 0 ≤ gz (distF n arcs to above) x.b → 0 ≤ gz (distF n arcs to above) x.a ∧ gz (distF n arcs to above) x.a ≤ gz (distF n arcs to above) x.b + 1 := fun x hx hi hb => by
    have := h2 x hx
    unfold rlxP at this
    unfold distF at *
    omega
  refine ⟨h1.ok.len, h1.zero, hle, fun u hu hut h0 => ?_, h1.ok.lo, fun j hj => ?_⟩
  · obtain ⟨x, hx, x1, x2, x3, x4⟩ := h1.sup u hu hut h0
    have := hle x hx x1 x3
    rw [x2] at this
    exact ⟨x, hx, x1, x2, x3, by unfold distF at *; omega⟩
  · have := h1.ok.hi j hj
    have h5 := cnt_le (distG above arcs (n * (n + 1) + 1) (one0 n to))
    have h6 := h1.ok.len
    unfold distF; omega

/-! the smallest cycle, as the program looks for it -/
def nxt' (arcs : List Ar) (j : Nat) : List Ar := arcs.filter fun x => x.a == j
def leastK (n : Nat) (arcs : List Ar) (l : List Ar) (m : Int) : Int := l.foldl (fun m a => if 0 ≤ gz (distF n arcs a.a (-1)) a.b ∧ (m = 0 ∨ gz (distF n arcs a.a (-1)) a.b + 1 < m) then gz (distF n arcs a.a (-1)) a.b + 1 else m) m
def isNx (d : List Int) (above : Nat) (v : Nat) (b : Ar) : Bool := decide (above < b.i) && decide (gz d b.b = gz d v - 1)
def pathK (arcs : List Ar) (d : List Int) (to above : Nat) : Nat → Nat → List Int
  | 0, _ => []
  | f + 1, v => if v = to then [] else match (nxt' arcs v).find? (isNx d above v) with
    | some b => (b.i : Int) :: pathK arcs d to above f b.b
    | none => []
def hitK (n : Nat) (arcs : List Ar) (m : Int) (a : Ar) : Bool := decide (m ≠ 0) && decide (gz (distF n arcs a.a a.i) a.b = m - 1)
def cycF (n : Nat) (arcs : List Ar) : Option (List Int) := match arcs.find? (hitK n arcs (leastK n arcs arcs 0)) with
  | none => none
  | some a => some ((a.i : Int) :: pathK arcs (distF n arcs a.a a.i) a.a a.i (n + 1) a.b)
/-- there is always a next arc -/
theorem next_some {arcs : List Ar} {n to above v : Nat} {d : List Int} (h : DF arcs n to above d) (hv : v < n) (hne : v ≠ to) (h0 : 0 ≤ gz d v) : ∃ b, (nxt' arcs v).find? (isNx d above v) = some b ∧ b ∈ arcs ∧ above < b.i ∧ b.a = v ∧ gz d b.b = gz d v - 1 ∧ 0 ≤ gz d b.b := by
  obtain ⟨x, hx, x1, x2, x3, x4⟩ := h.sup v hv hne h0
  cases hf : (nxt' arcs v).find? (isNx d above v) with
  | none =>
    have h1 := List.find?_eq_none.1 hf x (List.mem_filter.2 ⟨hx, by simpa using x2⟩)
    refine absurd ?_ h1
    unfold isNx
    simp only [Bool.and_eq_true, decide_eq_true_eq]
    omega
  | some b =>
    have h1 := List.find?_some hf
    have h2 := List.mem_filter.1 (List.mem_of_find?_eq_some hf)
    unfold isNx at h1
    simp only [Bool.and_eq_true, decide_eq_true_eq] at h1
    exact ⟨b, rfl, h2.1, h1.1, by simpa using h2.2, h1.2, by omega⟩
end Go.Tp
namespace Go.Tp
theorem pathK_more {arcs : List Ar} {n to above : Nat} {d : List Int} (h : DF arcs n to above d) (ha : ∀ x ∈ arcs, ArOk n x) : ∀ (f g v : Nat), v < n → 0 ≤ gz d v → (gz d v).toNat < f → (gz d v).toNat < g → pathK arcs d to above f v = pathK arcs d to above g v
  | f + 1, g + 1, v, hv, h0, h1, h2 => by
    unfold pathK
    split
    · rfl
    · rename_i hne
      obtain ⟨b, hf, hb, _, _, he, hb0⟩ := next_some h hv hne h0
      rw [hf]
      dsimp only
      rw [pathK_more h ha f g b.b (ha b hb).2 hb0 (by omega) (by omega)]
end Go.Tp
