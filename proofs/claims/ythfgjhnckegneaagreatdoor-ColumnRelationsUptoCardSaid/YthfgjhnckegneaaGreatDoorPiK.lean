/-
  THE PROOFS, fourth part: addresses, reads of memory, slices. Own work.
-/
import Derived.Test.YthfgjhnckegneaaGreatDoorPiJ
namespace Go.Pi
open Go Go.RowKit

variable {P : Program} {n : Nz} {S0 S : Nat → Nat → Prop} {w0 w : World} {O : Nat → Option Nat} {g : G} {tm : Array Value} {o : Oper} {dst : Nat}

theorem halD {k : K} (hk : k.kills dst = [dst]) (hal : ∀ t s, aliasOf (g t) = some s → s ∈ k.kills dst → t ∈ k.kills dst) : ∀ t' s, aliasOf (g t') = some s → s = dst → t' = dst :=
  fun t s h1 h2 => by rw [hk] at hal; simpa using hal t s h1 (by simpa using h2)

theorem run_sizeOf {t : TypeId} (h : (P.info? t).isSome = true) : (sizeOf t).run P w = .ok (P.cellsOf t) w := by
  obtain ⟨i, hi⟩ := Option.isSome_iff_exists.1 h
  simp [sizeOf, typeInfo, hi, Program.cellsOf]

theorem Inv.immOf (h : Inv P n S0 w0 S O g tm w) {y : Operand} {x : PX} {cs : List D} (hx : chkX y x = true) (ha : x.at g = some (.imm cs)) :
    ∃ b off vs, rho tm y = .pointer (some ⟨b, off, none⟩) ∧ Row S w b off vs ∧ Reps S w cs vs ∧ ∀ d ∈ cs, d.one = true := by
  have key : x.ev g = .pt cs := by
    unfold PX.at at ha
    split at ha
    · rename_i t
      split at ha <;> cases ha
      rename_i hg; simp [PX.ev, hg]
    · rename_i t s
      split at ha
      · split at ha <;> cases ha
      · split at ha
        · split at ha <;> cases ha
        · cases ha
      · cases ha; rename_i hg; simp [PX.ev, hg]
      · cases ha
    · cases ha
  have hr := h.opnd hx (by rw [key]; rfl)
  rw [key] at hr
  generalize hv : rho tm y = v at hr
  cases hr with
  | pt ds b off vs hl h1 hr h => exact ⟨b, off, vs, rfl, hr, ⟨hl, h⟩, h1⟩

/-- the block that a slot owns, with the cells that it reads as -/
theorem SR.block {t : Nat} {d : D} {f : Nat → Value} {b : Nat} (h : SR P S w O f t d) (hd : d.owned = true) (hb : O t = some b) :
    ∃ arr e, w.heap[b]? = some (.cells arr e (0, 0)) ∧ Reps S w d.mem (arr.toList.take d.mem.length) ∧ (∀ x ∈ d.mem, x.one = true) := by
  rw [SR.owned_iff hd] at h
  cases d <;> (try (simp [D.owned] at hd; done)) <;> simp only [OwnR] at h
  · rcases h with ⟨h1, _⟩ | ⟨b', cap, arr, h1, h2, h3, h4, h5, h6, h7, h8, h9, h10, h11⟩
    · rw [hb] at h1; cases h1
    · rw [hb] at h1; cases h1
      exact ⟨arr, _, h3, by simp only [D.mem]; rw [h7]; exact h8, h9⟩
  · obtain ⟨b', arr, e, h1, h2, h3, h8, h9, h10, h11⟩ := h
    rw [hb] at h1; cases h1
    refine ⟨arr, e, h3, ?_, h9⟩
    simp only [D.mem]
    rw [List.take_of_length_le (by rw [h8.1]; exact Nat.le_refl _)]
    exact h8

theorem PX.at_own {x : PX} {s off : Nat} (ha : x.at g = some (.own s off)) : x.slot = some s := by
  unfold PX.at at ha
  split at ha
  · split at ha <;> cases ha; rfl
  · split at ha
    · split at ha <;> cases ha; rename_i e; rfl
    · split at ha
      · split at ha <;> cases ha; rfl
      · cases ha
    · cases ha
    · cases ha
  · cases ha

theorem PX.slot_reads {x : PX} {s : Nat} (h : x.slot = some s) : s ∈ x.reads := by
  cases x <;> simp [PX.slot] at h <;> simp [PX.reads, h]

theorem Inv.ownOf (h : Inv P n S0 w0 S O g tm w) {y : Operand} {x : PX} {s off : Nat} (hx : chkX y x = true) (ha : x.at g = some (.own s off)) :
    ∃ b, O s = some b ∧ rho tm y = .pointer (some ⟨b, off, none⟩) ∧ ((g s).owned = true ∨ ∃ t, g t = .rf s off) := by
  unfold PX.at at ha
  split at ha
  · rename_i t
    obtain ⟨ey, htg⟩ : y = .tmp t ∧ t < GB := by cases y <;> simp [chkX] at hx; obtain ⟨rfl, h⟩ := hx; exact ⟨rfl, h⟩
    subst ey
    split at ha <;> cases ha
    rename_i wr cs hg
    have hs := h.slot s
    rw [hg] at hs
    simp only [SR, OwnR] at hs
    obtain ⟨b, arr, e, h1, h2, _⟩ := hs
    exact ⟨b, h1, (tmOf_lt htg).symm.trans h2, .inl (by rw [hg]; rfl)⟩
  · rename_i t s'
    obtain ⟨ey, htg⟩ : y = .tmp t ∧ t < GB := by cases y <;> simp [chkX] at hx; obtain ⟨rfl, h⟩ := hx; exact ⟨rfl, h⟩
    subst ey
    have ht := h.slot t
    split at ha
    · rename_i s2 off2 hg
      split at ha <;> cases ha
      rename_i e
      subst e
      rw [hg] at ht
      obtain ⟨h1, b, h2, h3⟩ := ht
      exact ⟨b, h2, (tmOf_lt htg).symm.trans h3, .inr ⟨t, hg⟩⟩
    · rename_i s2 hg
      split at ha
      · rename_i e
        subst e
        split at ha <;> cases ha
        rename_i wr cs hg2
        rw [hg] at ht
        have hs := h.slot s
        rw [hg2] at hs
        simp only [SR, OwnR] at hs
        obtain ⟨b, arr, e, h1, h2, _⟩ := hs
        exact ⟨b, h1, ((tmOf_lt htg).symm.trans ht.2).trans h2, .inl (by rw [hg2]; rfl)⟩
      · cases ha
    · cases ha
    · cases ha
  · cases ha

theorem Addr.addL (b off k : Nat) : (⟨b, off, none⟩ : Addr).add k = ⟨b, off + k, none⟩ := by
  unfold Addr.add; split
  · rename_i h; simp [h]
  · rfl

theorem run_indexAt_slice {t e : TypeId} (hu : P.underlying t = some (.slice e)) (hi : (P.info? e).isSome = true) {b off m cap : Nat} {k : IntKind} {i : Int} (h0 : 0 ≤ i) (h1 : i < m) :
    (Instr.indexAt t (.slice (some ⟨b, off, none⟩) m cap) (.int k i)).run P w = .ok (.pointer (some ⟨b, off + i.toNat * P.cellsOf e, none⟩)) w := by
  simp [Instr.indexAt, asIntOf, run_underlying hu, h0, h1, run_sizeOf hi, Addr.addL]

theorem sound_ia (sz : Nat) (x i : PX) : Sound P (.ia sz x i) := by
  intro n S0 S w0 w O g tm o dst l hI hc hrd hdst hrun hal
  simp only [chkOp] at hc
  split at hc <;> try (cases hc; done)
  rename_i t a b hop
  simp only [Bool.and_eq_true] at hc
  obtain ⟨⟨h1, h2⟩, h3⟩ := hc
  split at h3 <;> try (cases h3; done)
  rename_i e hu
  simp only [Bool.and_eq_true, beq_iff_eq] at h3
  obtain ⟨h3, h4⟩ := h3
  subst h3
  simp only [K.run] at hrun
  split at hrun
  · rename_i m cs kx k ha hb
    split at hrun <;> cases hrun
    rename_i hk
    have hr := hI.opnd h1 (by rw [ha]; rfl)
    rw [ha] at hr
    generalize hv : rho tm a = v at hr
    cases hr with
    | sl0 a cap hc => simp at hk; omega
    | slN => simp at hk; omega
    | sl m ds bb off cap vs hl h5 hn hcc hrow h =>
      have e2 := hI.intOf h2 hb
      refine hI.val hdst (by simpa [K.kills] using hal) (v := .pointer (some ⟨bb, off + k.toNat * P.cellsOf e, none⟩)) ?_ ?_
      · exact .pt _ _ _ _ (by simp [hl]) (fun d hd => h5 d (List.mem_of_mem_drop (List.mem_of_mem_take hd))) ((hrow.drop _).take (P.cellsOf e))
          ((Reps.take (Reps.drop ⟨hl, h⟩ _) _).2)
      · simp [execOp, hop, hv, e2, run_indexAt_slice hu h4 hk.1 hk.2.1]
  · rename_i wr e' m cs kx k ha hb
    split at hrun <;> try (cases hrun; done)
    rename_i s hs
    split at hrun <;> cases hrun
    rename_i hk
    obtain ⟨s', h5, h6, h7⟩ := hI.opndOwn h1 (by rw [ha]; rfl)
    rw [hs] at h5; cases h5
    rw [ha] at h6 h7
    simp only [OwnR] at h7
    rcases h7 with ⟨_, _, hm, _⟩ | ⟨bb, cap, arr, h8, h9, _⟩
    · omega
    · have e2 := hI.intOf h2 hb
      have hsd : s ≠ dst := fun e => hrd (by simp only [K.reads, List.mem_append]; exact .inl (e ▸ PX.slot_reads hs))
      have h10 := hI.setRf (off := k.toNat * P.cellsOf e) h8 hsd hdst (halD rfl hal)
      refine ⟨_, w, ?_, _, _, _, h10⟩
      have h11 := run_indexAt_slice (P := P) (w := w) (cap := cap) (b := bb) (off := 0) (k := kx) hu h4 hk.1 hk.2.1
      rw [Nat.zero_add] at h11
      simp [execOp, hop, h9, e2, h11]
  · cases hrun

theorem run_indexAt_array {t e : TypeId} {m : Nat} (hu : P.underlying t = some (.array m e)) (hi : (P.info? e).isSome = true) {b off : Nat} {k : IntKind} {i : Int} (h0 : 0 ≤ i) (h1 : i < m) :
    (Instr.indexAt t (.pointer (some ⟨b, off, none⟩)) (.int k i)).run P w = .ok (.pointer (some ⟨b, off + i.toNat * P.cellsOf e, none⟩)) w := by
  simp [Instr.indexAt, asIntOf, run_underlying hu, Instr.sureAddr, h0, h1, run_sizeOf hi, Addr.addL]

theorem sound_iaA (m sz : Nat) (x i : PX) : Sound P (.iaA m sz x i) := by
  intro n S0 S w0 w O g tm o dst l hI hc hrd hdst hrun hal
  simp only [chkOp] at hc
  split at hc <;> try (cases hc; done)
  rename_i t a b hop
  simp only [Bool.and_eq_true] at hc
  obtain ⟨⟨h1, h2⟩, h3⟩ := hc
  split at h3 <;> try (cases h3; done)
  rename_i m' e hu
  simp only [Bool.and_eq_true, beq_iff_eq] at h3
  obtain ⟨⟨h3, h3'⟩, h4⟩ := h3
  subst h3; subst h3'
  simp only [K.run] at hrun
  split at hrun
  · rename_i cs kx k ha hb
    split at hrun <;> cases hrun
    rename_i hk
    obtain ⟨bb, off, vs, e1, hrow, hreps, h5⟩ := hI.immOf h1 ha
    have e2 := hI.intOf h2 hb
    refine hI.val hdst (by simpa [K.kills] using hal) (v := .pointer (some ⟨bb, off + k.toNat * P.cellsOf e, none⟩)) ?_ ?_
    · have hr2 := (hreps.drop (k.toNat * P.cellsOf e)).take (P.cellsOf e)
      exact .pt _ _ _ _ hr2.1 (fun d hd => h5 d (List.mem_of_mem_drop (List.mem_of_mem_take hd))) ((hrow.drop _).take (P.cellsOf e)) hr2.2
    · simp [execOp, hop, e1, e2, run_indexAt_array hu h4 hk.1 hk.2.1]
  · rename_i s off kx k ha hb
    split at hrun <;> cases hrun
    rename_i hk
    obtain ⟨bb, h8, e1, _⟩ := hI.ownOf h1 ha
    have e2 := hI.intOf h2 hb
    have hsd : s ≠ dst := fun e => hrd (by simp only [K.reads, List.mem_append]; exact .inl (e ▸ PX.slot_reads (PX.at_own ha)))
    have h10 := hI.setRf (off := off + k.toNat * P.cellsOf e) h8 hsd hdst (halD rfl hal)
    exact ⟨_, w, by simp [execOp, hop, e1, e2, run_indexAt_array hu h4 hk.1 hk.2], _, _, _, h10⟩
  · cases hrun

theorem run_fieldAt {t : TypeId} {fs : Array Field} {f : Nat} {fl : Field} {i : TypeInfo} (hu : P.underlying t = some (.struct fs)) (hf : fs[f]? = some fl) (hi : P.info? fl.type = some i) (hs : i.size ≠ 0) {b off : Nat} :
    (Instr.fieldAt t (.pointer (some ⟨b, off, none⟩)) f).run P w = .ok (.pointer (some ⟨b, off + fl.offset, none⟩)) w := by
  simp [Instr.fieldAt, run_underlying hu, hf, Instr.sureAddr, fieldPlace, sizeOf, typeInfo, hi, hs, Addr.addL]

theorem sound_fa (off : Nat) (x : PX) : Sound P (.fa off x) := by
  intro n S0 S w0 w O g tm o dst l hI hc hrd hdst hrun hal
  simp only [chkOp] at hc
  split at hc <;> try (cases hc; done)
  rename_i t a f hop
  simp only [Bool.and_eq_true] at hc
  obtain ⟨h1, h3⟩ := hc
  split at h3 <;> try (cases h3; done)
  rename_i fs hu
  split at h3 <;> try (cases h3; done)
  rename_i fl hf
  simp only [Bool.and_eq_true, beq_iff_eq] at h3
  obtain ⟨h3, h4⟩ := h3
  subst h3
  split at h4 <;> try (cases h4; done)
  rename_i i hi
  have hs : i.size ≠ 0 := by simpa using h4
  simp only [K.run] at hrun
  split at hrun
  · rename_i cs ha
    cases hrun
    obtain ⟨bb, off, vs, e1, hrow, hreps, h5⟩ := hI.immOf h1 ha
    refine hI.val hdst (by simpa [K.kills] using hal) (v := .pointer (some ⟨bb, off + fl.offset, none⟩)) ?_ ?_
    · have hr2 := hreps.drop fl.offset
      exact .pt _ _ _ _ hr2.1 (fun d hd => h5 d (List.mem_of_mem_drop hd)) (hrow.drop _) hr2.2
    · simp [execOp, hop, e1, run_fieldAt hu hf hi hs]
  · rename_i s off ha
    cases hrun
    obtain ⟨bb, h8, e1, _⟩ := hI.ownOf h1 ha
    have hsd : s ≠ dst := fun e => hrd (by simp only [K.reads]; exact (e ▸ PX.slot_reads (PX.at_own ha)))
    have h10 := hI.setRf (off := off + fl.offset) h8 hsd hdst (halD rfl hal)
    exact ⟨_, w, by simp [execOp, hop, e1, run_fieldAt hu hf hi hs], _, _, _, h10⟩
  · cases hrun

theorem run_loadVar {t : TypeId} {ag : Bool} {vs : List Value} {b off : Nat} (hag : isAggB P t = some ag) (hsz : P.cellsOf t = vs.length) (hi : (P.info? t).isSome = true)
    (hcells : ∀ j v, vs[j]? = some v → w.cell? ⟨b, off + j, none⟩ = some v) (h1 : ag = false → vs.length = 1) :
    (loadVar t ⟨b, off, none⟩).run P w = .ok (if ag then .agg vs.toArray else vs.headD undef) w := by
  have hl := run_loadCells_list (P := P) w ⟨b, off, none⟩ vs (fun j v hj => by rw [Addr.addL]; exact hcells j v hj)
  unfold isAggB at hag
  cases hu : P.underlying t with
  | none => simp [hu] at hag
  | some u =>
    rw [hu] at hag
    have haggd : (isAgg t).run P w = .ok ag w := by
      cases u <;> simp at hag <;> subst hag <;> simp [isAgg, run_underlying hu]
    unfold loadVar
    rw [Sem.run_bind, haggd]
    simp only [Result.andThen_ok]
    cases ag with
    | true =>
      simp only [if_true]
      rw [Sem.run_bind, run_sizeOf hi, hsz]
      simp [hl]
    | false =>
      simp only [Bool.false_eq_true, if_false]
      have h2 := h1 rfl
      match vs, h2 with
      | [v], _ =>
        have := hcells 0 v rfl
        rw [Nat.add_zero] at this
        simp [this]

theorem ofCells_rep {ag : Bool} {m : Nat} {cs : List D} {d : D} {vs : List Value} (h : ofCells ag m cs = some d) (hr : Reps S w cs vs) (h1 : ∀ x ∈ cs, x.one = true) :
    m ≤ vs.length ∧ (ag = false → m = 1) ∧ Rep S w d (if ag then .agg (vs.take m).toArray else (vs.take m).headD undef) := by
  unfold ofCells at h
  split at h <;> try (cases h; done)
  rename_i hm
  refine ⟨by rw [← hr.1]; exact hm, ?_, ?_⟩
  · intro e; subst e; simp only [Bool.false_eq_true, if_false] at h
    split at h <;> try (cases h; done)
    assumption
  · cases ag with
    | true =>
      simp only [if_true, Option.some.injEq] at h ⊢
      subst h
      have := hr.take m
      exact .agg _ _ this.1 (fun x hx => h1 x (List.mem_of_mem_take hx)) this.2
    | false =>
      simp only [Bool.false_eq_true, if_false] at h ⊢
      split at h <;> try (cases h; done)
      rename_i e
      subst e
      cases cs with
      | nil => simp at h
      | cons c cs =>
        simp only at h
        split at h <;> cases h
        obtain ⟨v, vs', rfl, r, _⟩ := hr.uncons
        exact r

theorem sound_ld (ag : Bool) (m : Nat) (x : PX) : Sound P (.ld ag m x) := by
  intro n S0 S w0 w O g tm o dst l hI hc hrd hdst hrun hal
  simp only [chkOp] at hc
  split at hc <;> try (cases hc; done)
  rename_i t a hop
  simp only [Bool.and_eq_true, beq_iff_eq] at hc
  obtain ⟨⟨⟨h1, h2⟩, h3⟩, h4⟩ := hc
  subst h3
  simp only [K.run] at hrun
  split at hrun <;> try (cases hrun; done)
  rename_i p ha
  rw [Option.map_eq_some_iff] at hrun
  obtain ⟨d, hd, rfl⟩ := hrun
  cases p with
  | imm cs =>
    obtain ⟨bb, off, vs, e1, hrow, hreps, h5⟩ := hI.immOf h1 ha
    obtain ⟨g1, g2, g3⟩ := ofCells_rep (S := S) (w := w) hd hreps h5
    refine hI.val hdst (by simpa [K.kills] using hal) g3 ?_
    have := run_loadVar (P := P) (w := w) (vs := vs.take (P.cellsOf t)) (b := bb) (off := off) h2 (by simp [g1]) h4 (fun j v hj => ((hrow.take _) j v hj).2) (fun e => by simp [g2 e]; have := g2 e; omega)
    simp [execOp, hop, e1, Instr.loadAt, Instr.sureAddr, this]
  | own s off =>
    obtain ⟨bb, h8, e1, hcase⟩ := hI.ownOf h1 ha
    by_cases hown : (g s).owned = true
    case neg =>
      have hmem : (g s).mem = [] := by cases hg : g s <;> first | rfl | (rw [hg] at hown; exact absurd rfl hown)
      simp only [Where.cells, hmem, List.drop_nil] at hd
      unfold ofCells at hd
      simp only [List.length_nil, Nat.le_zero_eq, List.take_nil] at hd
      split at hd <;> try (cases hd; done)
      rename_i h0
      split at hd
      · rename_i hag
        cases hd
        have := run_loadVar (P := P) (w := w) (vs := []) (b := bb) (off := off) h2 (by rw [h0]; rfl) h4 (fun j v hj => by simp at hj) (fun e => by rw [hag] at e; cases e)
        refine hI.val hdst (by simpa [K.kills] using hal) (v := .agg #[]) (.agg [] [] rfl (by simp) (fun i d v hi => by simp at hi)) ?_
        simp [execOp, hop, e1, Instr.loadAt, Instr.sureAddr, this, hag]
      · split at hd
        · rename_i h1; rw [h0] at h1; cases h1
        · cases hd
    obtain ⟨arr, e, hb, hreps, h5⟩ := (hI.slot s).block hown h8
    obtain ⟨g1, g2, g3⟩ := ofCells_rep (S := S) (w := w) hd (hreps.drop off) (fun x hx => h5 x (List.mem_of_mem_drop hx))
    refine hI.val hdst (by simpa [K.kills] using hal) g3 ?_
    have := run_loadVar (P := P) (w := w) (vs := ((arr.toList.take (g s).mem.length).drop off).take (P.cellsOf t)) (b := bb) (off := off) h2 (by rw [List.length_take]; omega) h4
      (fun j v hj => by
        rw [cell_of_row w bb (off + j) arr e (0, 0) hb]
        rw [List.getElem?_take] at hj
        split at hj <;> try (cases hj; done)
        rw [List.getElem?_drop, List.getElem?_take] at hj
        split at hj <;> try (cases hj; done)
        simpa using hj)
      (fun e => by rw [List.length_take]; have := g2 e; omega)
    simp [execOp, hop, e1, Instr.loadAt, Instr.sureAddr, this]

end Go.Pi
