/-
  WHAT AN OPERATION READS AND WRITES; operations that may change places. Own work.
-/
import Derived.Test.YthfgjhnckegneaaGreatDoorPiO
namespace Go.Pi
open Go Go.RowKit

variable {P : Program} {n : Nz} {S0 S : Nat → Nat → Prop} {w0 w : World} {O : Nat → Option Nat} {g : G} {tm : Array Value} {o : Oper} {dst : Nat}

/-- the slot for which the written slot is another name -/
def K.tgt : K → Option Nat
  | .mv x => x.slot
  | .ia _ x _ => x.slot
  | .iaA _ _ x _ => x.slot
  | .fa _ x => x.slot
  | .lg t => some (GB + t)
  | _ => none

def K.writes (dst : Nat) : K → List Nat
  | .tk t => [dst, t]
  | .sh x => dst :: x.slot.toList
  | .app _ _ _ x _ => dst :: x.reads
  | .slc _ x _ _ => dst :: x.slot.toList
  | .mkf _ xs | .call _ xs | .callV _ xs => dst :: xs.filterMap PX.slot
  | .st _ x _ => x.slot.toList
  | .alG _ => [dst, GB + dst]
  | .sgO t v ks => t :: (GB + t) :: (v.reads ++ ks)
  | .sgP t _ ks => t :: (GB + t) :: ks
  | _ => [dst]

section congr
variable {g' : G}

theorem PX.ev_congr {x : PX} (h : ∀ t ∈ x.reads, g t = g' t) : x.ev g = x.ev g' := by
  cases x with
  | v t => exact h t (by simp [PX.reads])
  | k d => rfl
  | o t s => simp only [PX.ev, h t (by simp [PX.reads]), h s (by simp [PX.reads])]

theorem PX.at_congr {x : PX} (h : ∀ t ∈ x.reads, g t = g' t) : x.at g = x.at g' := by
  cases x with
  | v t => simp only [PX.at, h t (by simp [PX.reads])]
  | k d => rfl
  | o t s => simp only [PX.at, h t (by simp [PX.reads]), h s (by simp [PX.reads])]

theorem Where.cells_congr {x : PX} {p : Where} (h : ∀ t ∈ x.reads, g t = g' t) (ha : x.at g = some p) : p.cells g = p.cells g' := by
  cases p with
  | imm cs => rfl
  | own s off => simp only [Where.cells, h s (PX.slot_reads (PX.at_own ha))]

theorem lend_congr {x : PX} (h : ∀ t ∈ x.reads, g t = g' t) : lend g x = lend g' x := by simp only [lend, PX.ev_congr h]
theorem capt_congr {x : PX} (h : ∀ t ∈ x.reads, g t = g' t) : capt g x = capt g' x := by simp only [capt, PX.ev_congr h]

theorem bound_congr {x : Option PX} {a b : Nat} (h : ∀ t ∈ x.toList.flatMap PX.reads, g t = g' t) : bound g a b x = bound g' a b x := by
  cases x with
  | none => rfl
  | some x => simp only [bound, PX.ev_congr (g := g) (g' := g') (x := x) (fun t ht => h t (by simpa using ht))]

theorem map_congr {α : Type} {f f' : PX → α} {xs : List PX} (hf : ∀ x, (∀ t ∈ x.reads, g t = g' t) → f x = f' x) (h : ∀ t ∈ xs.flatMap PX.reads, g t = g' t) : xs.map f = xs.map f' :=
  List.map_congr_left fun x hx => hf x fun t ht => h t (List.mem_flatMap.2 ⟨x, hx, ht⟩)

theorem dulls_congr {xs : List PX} (h : ∀ t ∈ xs.flatMap PX.reads, g t = g' t) : dulls g xs = dulls g' xs := by
  induction xs with
  | nil => rfl
  | cons x xs ih =>
    have h1 := ih (fun t ht => h t (by simp only [List.flatMap_cons, List.mem_append]; exact .inr ht))
    unfold dulls at h1 ⊢
    cases hs : x.slot with
    | none => simp only [List.filterMap_cons, hs, Option.map_none]; exact h1
    | some s =>
      have : g s = g' s := h s (by simp only [List.flatMap_cons, List.mem_append]; exact .inl (PX.slot_reads hs))
      simp only [List.filterMap_cons, hs, Option.map_some, this, h1]

theorem parts_congr {ps : List (Nat × Nat × PX)} (h : ∀ t ∈ ps.flatMap (fun p => p.2.2.reads), g t = g' t) : (ps.map fun (o, m, x) => (o, m, x.ev g)) = ps.map fun (o, m, x) => (o, m, x.ev g') :=
  List.map_congr_left fun p hp => by
    obtain ⟨o, m, x⟩ := p
    simp only [PX.ev_congr (g := g) (g' := g') (x := x) (fun t ht => h t (List.mem_flatMap.2 ⟨_, hp, ht⟩))]

theorem K.run_congr {k : K} (h : ∀ t ∈ k.reads, g t = g' t) : k.run dst g = k.run dst g' := by
  cases k <;> simp only [K.reads] at h
  case bad => rfl
  case mv x =>
    cases x with
    | v t => simp only [K.run, h t (by simp [PX.reads])]
    | k d => rfl
    | o t s => simp only [K.run, h t (by simp [PX.reads])]
  case nil => rfl
  case tk t => simp only [K.run, h t (by simp)]
  case sh x =>
    simp only [K.run, PX.ev_congr h]
    cases hs : x.slot with
    | none => rfl
    | some s =>
      have hq := h s (PX.slot_reads hs)
      cases hv : x.ev g' <;> simp only [hq]
  case ld ag m x =>
    simp only [K.run, ← PX.at_congr h]
    cases ha : x.at g with
    | none => rfl
    | some p => simp only [Where.cells_congr h ha]
  case st m x v =>
    have h1 : ∀ t ∈ x.reads, g t = g' t := fun t ht => h t (List.mem_append_left _ ht)
    have h2 : ∀ t ∈ v.reads, g t = g' t := fun t ht => h t (List.mem_append_right _ ht)
    simp only [K.run, ← PX.at_congr h1, PX.ev_congr h2]
    cases ha : x.at g with
    | none => rfl
    | some p =>
      cases p with
      | imm cs => rfl
      | own s off => simp only [h1 s (PX.slot_reads (PX.at_own ha))]
  case alloc => rfl
  case alG => rfl
  case lg t => simp only [K.run, h t (by simp)]
  case sgO t v ks =>
    have h1 : g t = g' t := h t (List.mem_cons_self ..)
    have h2 : ∀ t ∈ v.reads, g t = g' t := fun s hs => h s (List.mem_cons_of_mem _ hs)
    simp only [K.run, h1, PX.ev_congr h2]
  case sgP t v ks =>
    have h1 : g t = g' t := h t (List.mem_cons_self ..)
    have h2 : ∀ t ∈ v.reads, g t = g' t := fun s hs => h s (List.mem_cons_of_mem _ hs)
    simp only [K.run, h1, PX.ev_congr h2]
  case bld z ps => simp only [K.run, parts_congr h]
  case bldS e z m ps => simp only [K.run, parts_congr h]
  case slc sz x lo hi =>
    have h1 : ∀ t ∈ x.reads, g t = g' t := fun t ht => h t (List.mem_append_left _ (List.mem_append_left _ ht))
    have h2 : ∀ t ∈ lo.toList.flatMap PX.reads, g t = g' t := fun t ht => h t (List.mem_append_left _ (List.mem_append_right _ ht))
    have h3 : ∀ t ∈ hi.toList.flatMap PX.reads, g t = g' t := fun t ht => h t (List.mem_append_right _ ht)
    simp only [K.run, PX.ev_congr h1]
    cases hs : x.slot with
    | none => rfl
    | some s =>
      have hq := h1 s (PX.slot_reads hs)
      cases hv : (x.ev g').slv with
      | none => rfl
      | some p =>
        obtain ⟨m, cs⟩ := p
        simp only [hq, bound_congr (a := m) (b := m) h3]
        cases hb : bound g' m m hi with
        | none => rfl
        | some hh => simp only [bound_congr (a := 0) (b := hh) h2]
  case slS x lo hi =>
    have h1 : ∀ t ∈ x.reads, g t = g' t := fun t ht => h t (List.mem_append_left _ (List.mem_append_left _ ht))
    have h2 : ∀ t ∈ lo.toList.flatMap PX.reads, g t = g' t := fun t ht => h t (List.mem_append_left _ (List.mem_append_right _ ht))
    have h3 : ∀ t ∈ hi.toList.flatMap PX.reads, g t = g' t := fun t ht => h t (List.mem_append_right _ ht)
    simp only [K.run, PX.ev_congr h1]
    cases hv : x.ev g' <;> simp only
    rename_i l
    simp only [bound_congr (a := l.length) (b := l.length) h3]
    cases hb : bound g' l.length l.length hi with
    | none => rfl
    | some hh => simp only [bound_congr (a := 0) (b := hh) h2]
  case mkf f xs => simp only [K.run, map_congr (f := capt g) (f' := capt g') (g := g) (g' := g') (fun x hx => capt_congr hx) h, dulls_congr h]
  case mm mx xs => simp only [K.run, map_congr (f := fun x => kval (x.ev g)) (f' := fun x => kval (x.ev g')) (g := g) (g' := g') (fun x hx => by rw [PX.ev_congr hx]) h]
  case ext t i => simp only [K.run, h t (by simp)]
  case pick a b c =>
    have h1 : ∀ t ∈ a.reads, g t = g' t := fun t ht => h t (List.mem_append_left _ (List.mem_append_left _ ht))
    have h2 : ∀ t ∈ b.reads, g t = g' t := fun t ht => h t (List.mem_append_left _ (List.mem_append_right _ ht))
    have h3 : ∀ t ∈ c.reads, g t = g' t := fun t ht => h t (List.mem_append_right _ ht)
    simp only [K.run, PX.ev_congr h1, PX.ev_congr h2, PX.ev_congr h3]
  case call f xs => rfl
  case callV t xs => rfl
  case iaA m sz x y =>
    have h1 : ∀ t ∈ x.reads, g t = g' t := fun t ht => h t (List.mem_append_left _ ht)
    have h2 : ∀ t ∈ y.reads, g t = g' t := fun t ht => h t (List.mem_append_right _ ht)
    simp only [K.run, PX.at_congr h1, PX.ev_congr h2]
  case fa off x => simp only [K.run, PX.at_congr h]
  all_goals first
    | (simp only [K.run, PX.ev_congr h]; done)
    | (rename_i x y
       have h1 : ∀ t ∈ x.reads, g t = g' t := fun t ht => h t (List.mem_append_left _ ht)
       have h2 : ∀ t ∈ y.reads, g t = g' t := fun t ht => h t (List.mem_append_right _ ht)
       simp only [K.run, PX.ev_congr h1, PX.ev_congr h2])

theorem K.callee_congr {k : K} (h : ∀ t ∈ k.reads, g t = g' t) : k.callee g = k.callee g' := by
  cases k <;> simp only [K.reads] at h <;> try rfl
  · simp only [K.callee, map_congr (f := lend g) (f' := lend g') (g := g) (g' := g') (fun x hx => lend_congr hx) h]
  · rename_i t xs
    have h2 : ∀ t ∈ xs.flatMap PX.reads, g t = g' t := fun s hs => h s (List.mem_cons_of_mem _ hs)
    simp only [K.callee, h t (List.mem_cons_self ..), map_congr (f := lend g) (f' := lend g') (g := g) (g' := g') (fun x hx => lend_congr hx) h2]

theorem K.after_congr {k : K} {r : D} (h : ∀ t ∈ k.reads, g t = g' t) : k.after dst g r = k.after dst g' r := by
  cases k <;> simp only [K.reads] at h <;> try rfl
  · simp only [K.after, dulls_congr h]
  · simp only [K.after, dulls_congr (fun s hs => h s (List.mem_cons_of_mem _ hs))]
end congr

theorem dulls_fst (xs : List PX) : ∀ p ∈ dulls g xs, p.1 ∈ xs.filterMap PX.slot ∧ p.2 = (g p.1).dull := by
  intro p hp
  obtain ⟨x, hx, he⟩ := List.mem_filterMap.1 hp
  rw [Option.map_eq_some_iff] at he
  obtain ⟨s, hs, rfl⟩ := he
  exact ⟨List.mem_filterMap.2 ⟨x, hx, hs⟩, rfl⟩

theorem ofCells_alias {ag : Bool} {m : Nat} {cs : List D} {d : D} (h : ofCells ag m cs = some d) : aliasOf d = none := by
  unfold ofCells at h
  (repeat' split at h) <;> try (cases h; done)
  · cases h; rfl
  · rename_i d' _ hd
    cases h
    cases d <;> first | rfl | simp [D.one] at hd

/-- every update of an operation is of a slot in its list; but for the written slot it makes no other name -/
theorem K.run_upd {k : K} {l : List (Nat × D)} (h : k.run dst g = some l) : ∀ p ∈ l, p.1 ∈ k.writes dst ∧ (p.1 = dst ∧ (aliasOf p.2 = none ∨ aliasOf p.2 = k.tgt) ∨ aliasOf p.2 = none ∨ aliasOf p.2 = aliasOf (g p.1)) := by
  intro p hp
  cases k <;> simp only [K.run] at h
  case mkf f xs =>
    rw [Option.map_eq_some_iff] at h
    obtain ⟨ds, _, rfl⟩ := h
    rcases List.mem_cons.1 hp with rfl | hp
    · exact ⟨by simp [K.writes], .inr (.inl rfl)⟩
    · obtain ⟨h1, h2⟩ := dulls_fst xs p hp
      exact ⟨by simp only [K.writes]; exact List.mem_cons_of_mem _ h1, .inr (.inr (by rw [h2, aliasOf_dull]))⟩
  case app e sz bytes x y =>
    split at h <;> try (cases h; done)
    rename_i s _ _ _ _ _ _ hs _ _
    split at h <;> try (cases h; done)
    have hsr := PX.slot_reads hs
    split at h <;> cases h
    · simp only [List.mem_cons, List.not_mem_nil, or_false] at hp
      rcases hp with rfl | rfl | rfl
      · exact ⟨by simp [K.writes], .inr (.inl rfl)⟩
      · exact ⟨by simp only [K.writes]; exact List.mem_cons_of_mem _ hsr, .inr (.inl rfl)⟩
      · exact ⟨by simp [K.writes, PX.reads], .inr (.inl rfl)⟩
    · simp only [List.mem_cons, List.not_mem_nil, or_false] at hp
      rcases hp with rfl | rfl
      · exact ⟨by simp [K.writes], .inr (.inl rfl)⟩
      · exact ⟨by simp only [K.writes]; exact List.mem_cons_of_mem _ hsr, .inr (.inl rfl)⟩
  case mv x =>
    (repeat' split at h) <;> first
      | (cases h; done)
      | (cases h; simp only [List.mem_cons, List.not_mem_nil, or_false] at hp; subst hp
         refine ⟨by simp [K.writes], .inl ⟨rfl, ?_⟩⟩
         first
           | (right; rfl)
           | (right; simp_all [aliasOf, K.tgt, PX.slot]; done)
           | (left; rename_i d hdp; cases d <;> first | rfl | simp [D.isPure] at hdp)
           | (left; simp only []; cases hq : g _ <;> simp_all [aliasOf]))
  case cp x =>
    split at h <;> cases h
    rename_i hd
    simp only [List.mem_cons, List.not_mem_nil, or_false] at hp; subst hp
    refine ⟨by simp [K.writes], .inr (.inl ?_)⟩
    simp only
    generalize PX.ev g _ = q at hd ⊢
    cases q <;> first | rfl | simp [D.isPure] at hd
  case tk t =>
    split at h <;> cases h
    all_goals
      simp only [List.mem_cons, List.not_mem_nil, or_false] at hp
      rcases hp with rfl | rfl
    · rename_i h1 h2 h3 h4
      refine ⟨by simp [K.writes], .inl ⟨rfl, .inl ?_⟩⟩
      cases hq : g t <;> first | rfl | (exfalso; first | exact h1 _ hq | exact h2 _ _ hq | exact h3 _ hq | exact h4 _ hq | exact h3 hq | exact h4 hq)
    · exact ⟨by simp [K.writes], .inr (.inl rfl)⟩
  case sh x =>
    split at h <;> cases h
    all_goals
      rename_i hs hv
      simp only [List.mem_cons, List.not_mem_nil, or_false] at hp
      rcases hp with rfl | rfl
    · exact ⟨by simp [K.writes], .inr (.inl rfl)⟩
    · exact ⟨by simp [K.writes, hs], .inr (.inl rfl)⟩
    · exact ⟨by simp [K.writes], .inr (.inl rfl)⟩
    · exact ⟨by simp [K.writes, hs], .inr (.inr rfl)⟩
  case slc sz x lo hi =>
    (repeat' split at h) <;> cases h
    rename_i hs _ _ _ _ _ _ _ _
    simp only [List.mem_cons, List.not_mem_nil, or_false] at hp
    rcases hp with rfl | rfl
    · exact ⟨by simp [K.writes], .inr (.inl rfl)⟩
    · exact ⟨by simp [K.writes, hs], .inr (.inr (aliasOf_dull _))⟩
  case st m x v =>
    split at h <;> try (cases h; done)
    rename_i s off ha
    split at h <;> cases h
    rename_i hk
    simp only [List.mem_cons, List.not_mem_nil, or_false] at hp
    subst hp
    refine ⟨by simp [K.writes, PX.at_own ha], .inr (.inl ?_)⟩
    have h1 := hk.1
    cases hq : g s <;> rw [hq] at h1 <;> first | rfl | simp [D.wr] at h1
  case ia sz x i =>
    (repeat' split at h) <;> cases h <;> (simp only [List.mem_cons, List.not_mem_nil, or_false] at hp; subst hp)
    · exact ⟨by simp [K.writes], .inr (.inl rfl)⟩
    · rename_i hs _
      exact ⟨by simp [K.writes], .inl ⟨rfl, .inr (by simp [aliasOf, K.tgt, hs])⟩⟩
  case iaA m sz x i =>
    (repeat' split at h) <;> cases h <;> (simp only [List.mem_cons, List.not_mem_nil, or_false] at hp; subst hp)
    · exact ⟨by simp [K.writes], .inr (.inl rfl)⟩
    · rename_i ha _ _
      exact ⟨by simp [K.writes], .inl ⟨rfl, .inr (by simp [aliasOf, K.tgt, PX.at_own ha])⟩⟩
  case fa off x =>
    (repeat' split at h) <;> cases h <;> (simp only [List.mem_cons, List.not_mem_nil, or_false] at hp; subst hp)
    · exact ⟨by simp [K.writes], .inr (.inl rfl)⟩
    · rename_i ha
      exact ⟨by simp [K.writes], .inl ⟨rfl, .inr (by simp [aliasOf, K.tgt, PX.at_own ha])⟩⟩
  case alG e =>
    cases h
    simp only [List.mem_cons, List.not_mem_nil, or_false] at hp
    rcases hp with rfl | rfl <;> exact ⟨by simp [K.writes], .inr (.inl rfl)⟩
  case lg t =>
    split at h
    · split at h <;> cases h
      simp only [List.mem_cons, List.not_mem_nil, or_false] at hp; subst hp
      exact ⟨by simp [K.writes], .inl ⟨rfl, .inr (by simp [aliasOf, K.tgt])⟩⟩
    · rename_i wr d hgd
      split at h <;> cases h
      rename_i hd
      simp only [List.mem_cons, List.not_mem_nil, or_false] at hp; subst hp
      refine ⟨by simp [K.writes], .inr (.inl ?_)⟩
      have hd := hd.1
      simp only
      clear hgd
      cases d <;> first | rfl | simp [D.isPure] at hd
    · cases h
  case sgO t v ks =>
    split at h <;> try (cases h; done)
    split at h <;> cases h
    rcases List.mem_cons.1 hp with rfl | hp
    · exact ⟨by simp [K.writes], .inr (.inl rfl)⟩
    rcases List.mem_cons.1 hp with rfl | hp
    · exact ⟨by simp [K.writes], .inr (.inl rfl)⟩
    obtain ⟨z, hz, rfl⟩ := List.mem_map.1 hp
    exact ⟨by simp only [K.writes]; exact List.mem_cons_of_mem _ (List.mem_cons_of_mem _ hz), .inr (.inl rfl)⟩
  case sgP t v ks =>
    split at h <;> cases h
    rcases List.mem_cons.1 hp with rfl | hp
    · rename_i hk
      have h3 := hk.2.2.1
      refine ⟨by simp [K.writes], .inr (.inl ?_)⟩
      rfl
    rcases List.mem_cons.1 hp with rfl | hp
    · exact ⟨by simp [K.writes], .inr (.inl rfl)⟩
    obtain ⟨z, hz, rfl⟩ := List.mem_map.1 hp
    exact ⟨by simp only [K.writes]; exact List.mem_cons_of_mem _ (List.mem_cons_of_mem _ hz), .inr (.inl rfl)⟩
  case ext t i =>
    split at h <;> try (cases h; done)
    rw [Option.bind_eq_some_iff] at h
    obtain ⟨d, _, h⟩ := h
    split at h <;> cases h
    rename_i hd
    simp only [List.mem_cons, List.not_mem_nil, or_false] at hp; subst hp
    refine ⟨by simp [K.writes], .inr (.inl ?_)⟩
    cases d <;> first | rfl | simp [D.isPure] at hd
  case pick a b c =>
    (repeat' split at h) <;> try (cases h; done)
    all_goals
      rename_i hd
      cases h
      simp only [List.mem_cons, List.not_mem_nil, or_false] at hp; subst hp
      refine ⟨by simp [K.writes], .inr (.inl ?_)⟩
      simp only
      generalize PX.ev g _ = q at hd ⊢
      cases q <;> first | rfl | simp [D.isPure] at hd
  case ld ag m x =>
    split at h <;> try (cases h; done)
    rw [Option.map_eq_some_iff] at h
    obtain ⟨d, hd, rfl⟩ := h
    simp only [List.mem_cons, List.not_mem_nil, or_false] at hp; subst hp
    exact ⟨by simp [K.writes], .inr (.inl (ofCells_alias hd))⟩
  case fld ag off m x =>
    split at h <;> try (cases h; done)
    rw [Option.map_eq_some_iff] at h
    obtain ⟨d, hd, rfl⟩ := h
    simp only [List.mem_cons, List.not_mem_nil, or_false] at hp; subst hp
    exact ⟨by simp [K.writes], .inr (.inl (ofCells_alias hd))⟩
  all_goals first
    | (cases h; done)
    | ((try rw [Option.map_eq_some_iff] at h); (try obtain ⟨_, _, rfl⟩ := h); (try cases h); simp only [List.mem_cons, List.not_mem_nil, or_false] at hp; subst hp; exact ⟨by simp [K.writes], .inr (.inl rfl)⟩)
    | ((repeat' split at h) <;> first
        | (cases h; done)
        | ((try rw [Option.map_eq_some_iff] at h); (try obtain ⟨_, _, rfl⟩ := h); (try cases h); simp only [List.mem_cons, List.not_mem_nil, or_false] at hp; subst hp; exact ⟨by simp [K.writes], .inr (.inl rfl)⟩))

end Go.Pi
