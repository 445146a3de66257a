/-
  A REGION THAT DRAWS ITS ORDER, where loads are taken first under a condition on the world that need not hold behind one operation (a store) that waits for all of those loads: so that the store may hit a cell that was loaded. Own work, after the kit's law with a condition that holds throughout.
-/
import Derived.OrdersHeld
import Derived.StillTail
set_option linter.unusedVariables false
set_option linter.unusedSimpArgs false
namespace Go
variable {P : Program} {ops : Array Oper} {Q : Exit → Act → World → Prop} {md : Region.Mode} {S : World → Prop} {x : Nat}

/-- what has come up, has come up behind all that it waits for -/
def Region.closedB (md : Region.Mode) (ops : Array Oper) (listed : Array Bool) : Bool :=
  (List.range ops.size).all fun j => !listed.getD j false || (List.range ops.size).all fun i => !Region.waitsFor md ops j i || listed.getD i false
def Region.Closed (md : Region.Mode) (ops : Array Oper) (listed : Array Bool) : Prop := ∀ j i, i < ops.size → listed.getD j false = true → Region.waitsFor md ops j i = true → listed.getD i false = true
theorem Region.closed_of {listed : Array Bool} (h : Region.closedB md ops listed = true) : Region.Closed md ops listed := by
  intro j i hi hj hw
  obtain ⟨oj, hoj, _⟩ := Region.waitsFor_spec hw
  have hjs := (Array.getElem?_eq_some_iff.1 hoj).1
  have h1 := List.all_eq_true.1 h j (List.mem_range.2 hjs)
  rw [hj] at h1
  simp only [Bool.not_true, Bool.false_or] at h1
  have h2 := List.all_eq_true.1 h1 i (List.mem_range.2 hi)
  rw [hw] at h2
  simpa using h2
theorem Region.ready_waits {listed : Array Bool} {j i : Nat} (hj : j ∈ Region.ready md ops listed) (hw : Region.waitsFor md ops j i = true) : listed.getD i false = true := by
  obtain ⟨_, oj, hoj, hall⟩ := mem_ready.1 hj
  obtain ⟨oj', hoj', e, he, hb, hon⟩ := Region.waitsFor_spec hw
  rw [hoj] at hoj'
  cases hoj'
  rw [← hon]; exact hall e he hb
theorem Region.Closed.set {listed : Array Bool} {i : Nat} (h : Region.Closed md ops listed) (hi : i ∈ Region.ready md ops listed) : Region.Closed md ops (listed.setIfInBounds i true) := by
  intro j k hk hj hw
  by_cases hji : i = j
  · subst hji; exact getD_set_true (Region.ready_waits hi hw)
  · rw [getD_set_ne false hji] at hj
    exact getD_set_true (h j k hk hj hw)
/-- each waits for the next one -/
def Region.pathB (md : Region.Mode) (ops : Array Oper) : List Nat → Bool
  | a :: b :: l => Region.waitsFor md ops a b && decide (b < ops.size) && Region.pathB md ops (b :: l)
  | _ => true
theorem Region.path_down {listed : Array Bool} (hc : Region.Closed md ops listed) : ∀ (l : List Nat) (a z : Nat), listed.getD a false = true → Region.pathB md ops (a :: l) = true → (a :: l).getLast? = some z → listed.getD z false = true
  | [], a, z, h, _, hz => by simp at hz; subst hz; exact h
  | b :: l, a, z, h, hp, hz => by
    simp only [Region.pathB, Bool.and_eq_true, decide_eq_true_eq] at hp
    exact Region.path_down hc l b z (hc a b hp.1.2 h hp.1.1) hp.2 (by simpa using hz)
/-- a path from x down to i -/
def Region.leads (md : Region.Mode) (ops : Array Oper) (x i : Nat) (p : List Nat) : Bool := decide (p ≠ []) && Region.pathB md ops (x :: p) && ((x :: p).getLast? == some i)
theorem Region.leads_done {listed : Array Bool} (hc : Region.Closed md ops listed) {i : Nat} {p : List Nat} (h : Region.leads md ops x i p = true) (hx : x ∈ Region.ready md ops listed) : listed.getD i false = true := by
  unfold Region.leads at h
  simp only [Bool.and_eq_true, decide_eq_true_eq, beq_iff_eq] at h
  obtain ⟨⟨h1, h2⟩, h3⟩ := h
  cases p with
  | nil => exact absurd rfl h1
  | cons b l =>
    simp only [Region.pathB, Bool.and_eq_true, decide_eq_true_eq] at h2
    exact Region.path_down hc l b i (Region.ready_waits hx h2.1.1) h2.2 (by simpa using h3)

/-- whatever order is picked; S holds behind each operation but x -/
def wpAnyT (P : Program) (md : Region.Mode) (ops : Array Oper) (Q : Exit → Act → World → Prop) (S : World → Prop) (x : Nat) : Nat → Array Bool → Act → World → Prop
  | 0, listed, a, w => Region.ready md ops listed = [] ∧ Q .normal a w
  | fuel + 1, listed, a, w =>
    (Region.ready md ops listed = [] → Q .normal a w) ∧
    ∀ i ∈ Region.ready md ops listed, wpOp P ops Q i (fun a' w' => (i = x ∨ S w') ∧ wpAnyT P md ops Q S x fuel (listed.setIfInBounds i true) a' w') a w
theorem wpAny_of_T : ∀ (fuel : Nat) (listed : Array Bool) (a : Act) (w : World), wpAnyT P md ops Q S x fuel listed a w → wpAny P md ops Q fuel listed a w
  | 0, _, _, _, h => h
  | fuel + 1, _, _, _, h => ⟨h.1, fun i hi => wpOp_mono (fun a' w' h' => wpAny_of_T fuel _ a' w' h'.2) (h.2 i hi)⟩
theorem wpAnyT_first {i : Nat} {oi : Oper} {v : Value} (hi : ops[i]? = some oi) (hsel : ∀ (j : Nat) (o : Oper) cs b, ops[j]? = some o → o.op ≠ .select cs b)
    (hQ : ∀ c a w, Q (.panic c) (a.put oi.dst v) w → Q (.panic c) a w) (hx : ∀ listed, Region.Closed md ops listed → x ∈ Region.ready md ops listed → listed.getD i false = true) :
    ∀ (fuel : Nat) (listed : Array Bool) (a : Act) (w : World), Region.Closed md ops listed →
      (∀ j oj, ops[j]? = some oj → j ≠ i → listed.getD j true = false → (∀ e ∈ oj.after, Region.binds md e = true → e.on ≠ i) → oi.apart ops oj = true) →
      i ∈ Region.ready md ops listed → YieldsIf P ops S oi v a → S w →
      wpAnyT P md ops Q S x fuel (listed.setIfInBounds i true) (a.put oi.dst v) w → wpAnyT P md ops Q S x (fuel + 1) listed a w := by
  intro fuel
  induction fuel with
  | zero =>
    intro listed a w _ _ hr hy hS H
    refine ⟨fun h => (by rw [h] at hr; cases hr), fun j hj => ?_⟩
    by_cases hji : j = i
    · subst hji; exact hy.wpOp hi hS ⟨.inr hS, H⟩
    · have := ready_mono hj hji
      rw [H.1] at this
      cases this
  | succ fuel ih =>
    intro listed a w hc hfree hr hy hS H
    refine ⟨fun h => (by rw [h] at hr; cases hr), fun j hj => ?_⟩
    by_cases hji : j = i
    · subst hji; exact hy.wpOp hi hS ⟨.inr hS, H⟩
    · have h1 := H.2 j (ready_mono hj hji)
      obtain ⟨hjun, oj, hoj, hall⟩ := mem_ready.1 hj
      have hun := (mem_ready.1 hr).1
      have hil' : listed.getD i false = false := by
        rcases Nat.lt_or_ge i listed.size with h' | h'
        · simp [h'] at hun ⊢; exact hun
        · simp [Array.getElem?_eq_none h'] at hun
      have hjx : j ≠ x := fun e => by
        subst e
        rw [hx listed hc hj] at hil'; cases hil'
      have hnot : ∀ e ∈ oj.after, Region.binds md e = true → e.on ≠ i := fun e he hb heq => by
        have h1 := hall e he hb
        rw [heq, hil'] at h1; cases h1
      have h2 := wpOp_putIf hoj (hfree j oj hoj hji hjun hnot) (fun cs b => hsel i oi cs b hi) (fun cs b => hsel j oj cs b hoj) hQ hy h1
      have hfree' : ∀ k ok, ops[k]? = some ok → k ≠ i → (listed.setIfInBounds j true).getD k true = false →
          (∀ e ∈ ok.after, Region.binds md e = true → e.on ≠ i) → oi.apart ops ok = true := fun k ok hk hki hun hno => by
        refine hfree k ok hk hki ?_ hno
        by_cases hjk : j = k
        · subst hjk; exact hjun
        · rw [getD_set_ne true hjk] at hun; exact hun
      refine wpOp_mono (fun a' w' h3 => ?_) h2
      have hSw : S w' := h3.2.1.resolve_left hjx
      refine ⟨.inr hSw, ih (listed.setIfInBounds j true) a' w' (hc.set hj) hfree' (ready_mono hr (Ne.symm hji)) h3.1 hSw ?_⟩
      rw [Array.setIfInBounds_comm _ _ hji]
      exact h3.2.2
/-- operation i is taken first; p leads from x down to it -/
theorem wpAnyT_take {i : Nat} (p : List Nat) {oi : Oper} {v : Value} {fuel : Nat} {listed : Array Bool} {a : Act} {w : World} (hi : ops[i]? = some oi)
    (hs : Region.noSelect ops = true) (hf : (Region.free md ops listed i && (Region.ready md ops listed).contains i && Region.closedB md ops listed && Region.leads md ops x i p) = true)
    (hQ : ∀ c a w, Q (.panic c) (a.put oi.dst v) w → Q (.panic c) a w) (hy : YieldsIf P ops S oi v a) (hS : S w)
    (h : wpAnyT P md ops Q S x fuel (listed.setIfInBounds i true) (a.put oi.dst v) w) : wpAnyT P md ops Q S x (fuel + 1) listed a w := by
  simp only [Bool.and_eq_true] at hf
  obtain ⟨⟨⟨h1, h2⟩, h3⟩, h4⟩ := hf
  exact wpAnyT_first hi (Region.noSelect_spec hs) hQ (fun _ hc hx => Region.leads_done hc h4 hx) fuel listed a w (Region.closed_of h3) (Region.free_spec hi h1) (by simpa using h2) hy hS h
/-- one alone may come up -/
theorem wpAnyT_one {i : Nat} {o : Oper} {fuel : Nat} {listed : Array Bool} {a : Act} {w : World} (hr : Region.ready md ops listed = [i]) (ho : ops[i]? = some o)
    (h : ∀ K : Act → World → Prop, (∀ a' w', (i = x ∨ S w') → wpAnyT P md ops Q S x fuel (listed.setIfInBounds i true) a' w' → K a' w') → if Region.wanted o (yielded ops a.tmps) = true then Oper.wp P o a w K Q else K (a.put o.dst undef) w) : wpAnyT P md ops Q S x (fuel + 1) listed a w := by
  refine ⟨fun h0 => (by rw [hr] at h0; cases h0), fun j hj => ?_⟩
  rw [hr, List.mem_singleton] at hj
  subst hj
  have := h _ fun a' w' h1 h2 => (⟨h1, h2⟩ : (j = x ∨ S w') ∧ wpAnyT P md ops Q S x fuel (listed.setIfInBounds j true) a' w')
  unfold wpOp
  simp only [ho]
  split
  · rename_i hw; rw [if_pos hw] at this; exact .inl this
  · rename_i hw; rw [if_neg hw] at this; exact this
theorem wpAnyT_done {listed : Array Bool} {a : Act} {w : World} (hr : Region.ready md ops listed = []) (h : Q .normal a w) : ∀ fuel, wpAnyT P md ops Q S x fuel listed a w
  | 0 => ⟨hr, h⟩
  | _ + 1 => ⟨fun _ => h, by rw [hr]; simp⟩
end Go
