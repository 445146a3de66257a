/-
  THE PROOFS, third part: values handed on; addresses. Own work.
-/
import Derived.Test.YthfgjhnckegneaaGreatDoorPiI
namespace Go.Pi
open Go Go.RowKit

variable {P : Program} {n : Nz} {S0 S : Nat → Nat → Prop} {w0 w : World} {O : Nat → Option Nat} {g : G} {tm : Array Value} {o : Oper} {dst : Nat}

theorem exec_move {y : Operand} (hop : o.op = .move y ∨ o.op = .assign y) (ρ : Operand → Value) : (execOp ρ o).run P w = .ok (.value (ρ y)) w := by
  rcases hop with h | h <;> simp [execOp, h]

theorem moveOf {x : PX} {f : Operand → PX → Bool} (hc : (match o.op with | .move y | .assign y => f y x | _ => false) = true) : ∃ y, (o.op = .move y ∨ o.op = .assign y) ∧ f y x = true := by
  split at hc
  · rename_i y h; exact ⟨y, .inl h, hc⟩
  · rename_i y h; exact ⟨y, .inr h, hc⟩
  · cases hc

theorem sound_cp (x : PX) : Sound P (.cp x) := by
  intro n S0 S w0 w O g tm o dst l hI hc hrd hdst hrun hal
  simp only [chkOp] at hc
  obtain ⟨y, hop, hx⟩ := moveOf (f := chkX) hc
  have hex := exec_move (P := P) (w := w) hop (rho tm)
  simp only [K.run] at hrun
  split at hrun <;> try (cases hrun; done)
  rename_i hp
  cases hrun
  exact hI.val hdst (by simpa [K.kills] using hal) (hI.opnd hx hp) hex

theorem sound_mv (x : PX) : Sound P (.mv x) := by
  intro n S0 S w0 w O g tm o dst l hI hc hrd hdst hrun hal
  simp only [chkOp] at hc
  obtain ⟨y, hop, hx⟩ := moveOf (f := chkX) hc
  have hex := exec_move (P := P) (w := w) hop (rho tm)
  have hal' : ∀ t' s, aliasOf (g t') = some s → s = dst → t' = dst := fun t s h1 h2 => by
    simpa [K.kills] using hal t s h1 (by simpa [K.kills] using h2)
  have pureCase : ∀ d, x.ev g = d → d.isPure = true → l = [(dst, d)] → ∃ v w', (execOp (rho tm) o).run P w = .ok (.value v) w' ∧ Good P n S0 w0 (upds g l) (tm.setIfInBounds dst v) w' := by
    intro d hd hp hl
    subst hl
    exact hI.val hdst (fun t s h1 h2 => by simpa using hal' t s h1 (by simpa using h2)) (by rw [← hd]; exact hI.opnd hx (by rw [hd]; exact hp)) hex
  simp only [K.run] at hrun
  split at hrun
  · rename_i d
    split at hrun <;> cases hrun
    rename_i hdp
    cases y <;> simp only [chkX] at hx <;> try (cases hx; done)
    · exact hI.val hdst (fun t s h1 h2 => by simpa using hal' t s h1 (by simpa using h2)) (constOk_rep hx) hex
    · cases d <;> (try (simp [chkX] at hx; done))
      exact pureCase _ rfl rfl rfl
  · rename_i t
    have ht : t ≠ dst := fun e => hrd (by simp [K.reads, PX.reads, e])
    obtain ⟨ey, htg⟩ : y = .tmp t ∧ t < GB := by cases y <;> simp [chkX] at hx; obtain ⟨rfl, h⟩ := hx; exact ⟨rfl, h⟩
    subst ey
    have own : l = [(dst, .al t)] → ∃ v w', (execOp (rho tm) o).run P w = .ok (.value v) w' ∧ Good P n S0 w0 (upds g l) (tm.setIfInBounds dst v) w' := by
      intro hl
      subst hl
      exact ⟨_, w, hex, _, _, _, hI.setAl (tmOf_lt htg).symm ht hdst hal'⟩
    split at hrun
    · cases hrun; exact own rfl
    · cases hrun; exact own rfl
    · cases hrun
    · cases hrun
    · cases hrun
    · cases hrun
    · rename_i h1 h2 h3 h4 h5 h6
      cases hrun
      refine pureCase _ rfl ?_ rfl
      simp only [PX.ev]
      cases hg : g t <;> first | rfl | (exfalso; first | exact h1 _ _ _ _ hg | exact h2 _ _ hg | exact h3 _ hg | exact h4 _ _ hg | exact h5 hg | exact h6 _ hg)
  · rename_i t s
    have ht : s ≠ dst := fun e => hrd (by simp [K.reads, PX.reads, e])
    obtain ⟨ey, htg⟩ : y = .tmp t ∧ t < GB := by cases y <;> simp [chkX] at hx; obtain ⟨rfl, h⟩ := hx; exact ⟨rfl, h⟩
    subst ey
    split at hrun
    · rename_i s' hs
      split at hrun <;> try (cases hrun; done)
      rename_i e
      subst e
      cases hrun
      have h1 := hI.slot t
      rw [hs] at h1
      exact ⟨_, w, hex, _, _, _, hI.setAl ((tmOf_lt htg).symm.trans h1.2) ht hdst hal'⟩
    · cases hrun
    · cases hrun
    · cases hrun
    · cases hrun
    · cases hrun
    · rename_i h1 h2 h3 h4 h5 h6
      cases hrun
      refine pureCase (g t) ?_ ?_ rfl
      · simp only [PX.ev]
      · cases hg : g t <;> first | rfl | (exfalso; first | exact h1 _ hg | exact h2 _ _ _ _ hg | exact h3 _ _ hg | exact h4 _ _ hg | exact h5 hg | exact h6 _ hg)

theorem sound_nil (e : TypeId) : Sound P (.nil e) := by
  intro n S0 S w0 w O g tm o dst l hI hc hrd hdst hrun hal
  simp only [chkOp] at hc
  simp only [K.run] at hrun
  cases hrun
  have hop : o.op = .move (.const (.slice none 0 0)) ∨ o.op = .assign (.const (.slice none 0 0)) := by
    split at hc
    · rename_i h; exact .inl h
    · rename_i h; exact .inr h
    · cases hc
  refine ⟨_, w, exec_move hop (rho tm), _, _, _, hI.setOwn (ob := none) hI.extRefl rfl ?_ (fun b hb => by cases hb) hdst (fun t s h1 h2 => by simpa [K.kills] using hal t s h1 (by simpa [K.kills] using h2))⟩
  simp only [OwnR]
  exact .inl (by simp [rho])

theorem sound_tk (t : Nat) : Sound P (.tk t) := by
  intro n S0 S w0 w O g tm o dst l hI hc hrd hdst hrun hal
  simp only [chkOp] at hc
  have hop : (o.op = .move (.tmp t) ∨ o.op = .assign (.tmp t)) ∧ t < GB := by
    split at hc
    · rename_i h; simp at hc; obtain ⟨rfl, hl⟩ := hc; exact ⟨.inl h, hl⟩
    · rename_i h; simp at hc; obtain ⟨rfl, hl⟩ := hc; exact ⟨.inr h, hl⟩
    · cases hc
  obtain ⟨hop, htg⟩ := hop
  have ht : t ≠ dst := fun e => hrd (by simp [K.reads, e])
  have hl : l = [(dst, g t), (t, .un)] ∧ (g t).isPure = true ∨ l = [(dst, g t), (t, .un)] ∧ (g t).owned = true := by
    simp only [K.run] at hrun
    cases hg : g t <;> rw [hg] at hrun <;> simp only at hrun <;> cases hrun <;> first | exact .inl ⟨rfl, rfl⟩ | exact .inr ⟨rfl, rfl⟩
  have hl' : l = [(dst, g t), (t, .un)] := hl.elim (·.1) (·.1)
  subst hl'
  have h1 := hI.drops [dst, t] (fun t' s h1 h2 => by simpa [K.kills] using hal t' s h1 (by simpa [K.kills] using h2))
  have hna : ∀ t' s, aliasOf (if t' ∈ [dst, t] then D.un else g t') = some s → s ≠ dst := fun t' s h2 e => by
    split at h2
    · cases h2
    · rename_i hn; exact hn (by simpa [K.kills] using hal t' s h2 (by simp [K.kills, e]))
  have h2 := h1.touch (t := dst) (tm.getD t undef) hdst.2 (by simp) hna
  have hsl := hI.slot t
  have hset : tmOf n.gv (tm.setIfInBounds dst (tm.getD t undef)) dst = tmOf n.gv tm t := (tmOf_set _ _ (by rw [hI.size]; exact hdst.1) (hI.has hdst)).trans (tmOf_lt htg).symm
  have h3 := h2.put (O' := fun x => if x = dst then O t else if x ∈ [dst, t] then none else O x) (t := dst) (d := g t) (fun x e => by simp [e]) (by simp) hna
    (fun b e => by
      simp only [if_true] at e
      exact ⟨(hI.base t b e).1, (hI.base t b e).2, fun x e' => by
        split at e'
        · cases e'
        · rename_i hn; have := hI.inj x t b e' e; exact hn (by simp [this])⟩)
    (by
      rcases hl with ⟨_, hp⟩ | ⟨_, hp⟩
      · rw [SR.pure_iff hp] at hsl ⊢
        simp only [if_true]
        exact ⟨hsl.1, by rw [hset]; exact hsl.2⟩
      · rw [SR.owned_iff hp] at hsl ⊢
        simp only [if_true]
        rw [hset]; exact hsl) (.inl (hI.has hdst))
  have eg : upds g [(dst, g t), (t, .un)] = upd (fun x => if x ∈ [dst, t] then D.un else g x) dst (g t) := by
    funext x
    simp only [upds, upd]
    by_cases e1 : x = t
    · subst e1; simp [ht]
    · by_cases e2 : x = dst
      · subst e2; simp [e1]
      · simp [e1, e2]
  rw [eg]
  exact ⟨_, w, exec_move hop (rho tm), S, _, _, h3⟩

theorem aliasOf_dull (d : D) : aliasOf d.dull = aliasOf d := by cases d <;> rfl

theorem alias_upd_dull (s t : Nat) : aliasOf (upd g s (g s).dull t) = aliasOf (g t) := by
  simp only [upd]
  split
  · rename_i e; rw [e, aliasOf_dull]
  · rfl

theorem upd_comm (g : G) {s t : Nat} (a b : D) (h : s ≠ t) : upd (upd g s a) t b = upd (upd g t b) s a := by
  funext x
  simp only [upd]
  by_cases e1 : x = t
  · subst e1
    by_cases e2 : x = s
    · exact absurd e2.symm h
    · simp [e2]
  · simp [e1]

theorem sound_sh (x : PX) : Sound P (.sh x) := by
  intro n S0 S w0 w O g tm o dst l hI hc hrd hdst hrun hal
  simp only [chkOp] at hc
  obtain ⟨y, hop, hx⟩ := moveOf (f := chkX) hc
  have hex := exec_move (P := P) (w := w) hop (rho tm)
  simp only [K.run] at hrun
  split at hrun
  · rename_i s wr e m cs hs he
    cases hrun
    have hsd : s ≠ dst := fun e => hrd (by cases x <;> simp [PX.slot] at hs <;> simp [K.reads, PX.reads, ← e, hs])
    obtain ⟨s', h1, h2, h3⟩ := hI.opndOwn hx (by rw [he]; rfl)
    rw [hs] at h1; cases h1
    rw [he] at h2 h3
    obtain ⟨S', hI', hSS⟩ := hI.dull s
    have h4 := hI'.slot s
    simp only [upd, if_true, h2, D.dull] at h4
    simp only [SR] at h4
    have hv : rho tm y = tmOf n.gv tm s := by
      have hxx := hx
      unfold chkX at hxx
      split at hxx
      · simp at hxx; obtain ⟨rfl, hlt⟩ := hxx; simp [PX.slot] at hs; subst hs; exact (tmOf_lt hlt).symm
      · rename_i t t' s''
        simp at hxx; obtain ⟨rfl, hlt⟩ := hxx; simp [PX.slot] at hs; subst hs
        have h5 := hI.slot t
        simp only [PX.ev] at he
        split at he
        · rename_i s3 hg3
          split at he
          · rename_i e3; subst e3; rw [hg3] at h5; exact (tmOf_lt hlt).symm.trans h5.2
          · cases he
        · cases he
        · cases he
        · cases he
        · rename_i h6 h7 h8 h9
          first | exact absurd he (h7 _ _ _ _) | exact absurd he (h8 _ _ _ _) | exact absurd he (h6 _ _ _ _)
      · simp [PX.slot] at hs
      · simp [PX.slot] at hs
      · cases hxx
    have hr : Rep S' w (.sl m cs) (rho tm y) := by rw [hv]; exact OwnR.rep h4
    have h6 := hI'.setPure hI'.extRefl (fun _ _ z => z) (fun _ _ z => .inl z) hr hdst (fun t s1 z1 z2 => by
      rw [alias_upd_dull] at z1
      simpa [K.kills] using hal t s1 z1 (by simpa [K.kills] using z2))
    have eg : upds g [(dst, .sl m cs), (s, .own false e m cs)] = upd (upd g s (g s).dull) dst (.sl m cs) := by
      simp only [upds]
      rw [upd_comm _ _ _ hsd, h2]; rfl
    rw [eg]
    exact ⟨_, w, hex, S', _, _, h6⟩
  · rename_i s m cs hs he
    cases hrun
    have hsd : s ≠ dst := fun e => hrd (by cases x <;> simp [PX.slot] at hs <;> simp [K.reads, PX.reads, ← e, hs])
    have hr := hI.opnd hx (by rw [he]; rfl)
    rw [he] at hr
    have h6 := hI.setPure hI.extRefl (fun _ _ z => z) (fun _ _ z => .inl z) hr hdst (fun t s1 z1 z2 => by
      simpa [K.kills] using hal t s1 z1 (by simpa [K.kills] using z2))
    have eg : upds g [(dst, .sl m cs), (s, g s)] = upd g dst (.sl m cs) := by
      simp only [upds]
      rw [upd_comm g (s := dst) (t := s) (.sl m cs) (g s) (fun z => hsd z.symm), upd_same]
    rw [eg]
    exact ⟨_, w, hex, S, _, _, h6⟩
  · cases hrun

end Go.Pi
