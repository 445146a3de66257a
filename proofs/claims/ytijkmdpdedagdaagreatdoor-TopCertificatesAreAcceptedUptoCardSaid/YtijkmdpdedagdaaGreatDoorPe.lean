/-
  THE PROOFS, fifth part: what is lent; slices; conversions. Own work.
-/
import Derived.Test.YtijkmdpdedagdaaGreatDoorPd
import Derived.Laws.IdiomStrings
set_option linter.unusedVariables false
set_option linter.unusedSimpArgs false
namespace Go.Pi
open Go Go.RowKit

variable {P : Program} {n : Nz} {S0 S : Nat → Nat → Prop} {w0 w : World} {O : Nat → Option Nat} {g : G} {tm : Array Value} {o : Oper} {dst : Nat}

def dullAll (g : G) (ss : List Nat) : G := fun t => if t ∈ ss then (g t).dull else g t

theorem dull_dull (d : D) : d.dull.dull = d.dull := by cases d <;> rfl

theorem upds_dulls (xs : List PX) : ∀ (g h : G), (∀ t, t ∈ xs.filterMap PX.slot → (g t).dull = (h t).dull) → upds g (dulls h xs) = dullAll g (xs.filterMap PX.slot) := by
  induction xs with
  | nil => intro g h _; funext t; simp [dulls, upds, dullAll]
  | cons x xs ih =>
    intro g h hgh
    cases hs : x.slot with
    | none =>
      have e1 : dulls h (x :: xs) = dulls h xs := by simp [dulls, hs]
      have e2 : (x :: xs).filterMap PX.slot = xs.filterMap PX.slot := by simp [hs]
      rw [e2] at hgh
      rw [e1, e2]; exact ih g h hgh
    | some s =>
      have e1 : dulls h (x :: xs) = (s, (h s).dull) :: dulls h xs := by simp [dulls, hs]
      have e2 : (x :: xs).filterMap PX.slot = s :: xs.filterMap PX.slot := by simp [hs]
      rw [e2] at hgh
      rw [e1, e2]
      simp only [upds]
      rw [ih (upd g s (h s).dull) h (fun t ht => by
        simp only [upd]; split
        · rename_i e; subst e; rw [dull_dull]
        · exact hgh t (List.mem_cons_of_mem _ ht))]
      funext t
      simp only [dullAll, upd, List.mem_cons]
      by_cases e : t = s
      · subst e
        simp only [if_true, true_or]
        have hh := hgh t (List.mem_cons_self ..)
        split
        · rw [dull_dull, hh]
        · rw [hh]
      · simp [e]

theorem upds_dst_dulls (xs : List PX) (dst : Nat) (d : D) (h : dst ∉ xs.filterMap PX.slot) : upds g ((dst, d) :: dulls g xs) = upd (dullAll g (xs.filterMap PX.slot)) dst d := by
  simp only [upds]
  rw [upds_dulls xs (upd g dst d) g (fun t ht => by
    have : t ≠ dst := fun e => h (e ▸ ht)
    simp only [upd, if_neg this])]
  funext t
  simp only [dullAll, upd]
  by_cases e : t = dst
  · rw [if_neg (by rw [e]; exact h)]
    simp [e]
  · simp only [e, if_false]

theorem Inv.dullAll (h : Inv P n S0 w0 S O g tm w) (ss : List Nat) : ∃ S', Inv P n S0 w0 S' O (dullAll g ss) tm w ∧ ∀ b o, S b o → S' b o := by
  induction ss with
  | nil => exact ⟨S, by have e : Pi.dullAll g [] = g := by funext t; simp [Pi.dullAll]
                        rw [e]; exact h, fun _ _ x => x⟩
  | cons s ss ih =>
    obtain ⟨S1, h1, h2⟩ := ih
    obtain ⟨S2, h3, h4⟩ := h1.dull s
    refine ⟨S2, ?_, fun b o x => h4 _ _ (h2 _ _ x)⟩
    have e : upd (Pi.dullAll g ss) s (Pi.dullAll g ss s).dull = Pi.dullAll g (s :: ss) := by
      funext t
      simp only [upd, Pi.dullAll, List.mem_cons]
      by_cases e : t = s
      · subst e
        simp only [if_true, true_or]
        split
        · rw [dull_dull]
        · rfl
      · simp [e]
    rw [e] at h3
    exact h3

theorem alias_dullAll (ss : List Nat) (t : Nat) : aliasOf (dullAll g ss t) = aliasOf (g t) := by
  unfold dullAll; split
  · exact aliasOf_dull _
  · rfl

theorem dull_pure {d : D} (h : d.isPure = true) : d.dull = d := by cases d <;> first | rfl | simp [D.isPure] at h

theorem chkX_k {y : Operand} {d : D} (h : chkX y (.k d) = true) : d.owned = false := by
  unfold chkX at h
  split at h <;> try (cases h; done)
  · simp at *
  · simp at *
  · rename_i v d' e
    cases e
    cases d <;> first | rfl | (cases v <;> simp [constOk] at h)
  · rename_i f f' e
    cases e; rfl

theorem ev_dullAll (ss : List Nat) (x : PX) (hk : ∀ d, x = .k d → d.owned = false) (hs : ∀ s, x.slot = some s → s ∈ ss) : x.ev (dullAll g ss) = (x.ev g).dull ∨ ((x.ev g).owned = false ∧ x.ev (dullAll g ss) = x.ev g) := by
  cases x with
  | v t => left; simp [PX.ev, dullAll, hs t rfl]
  | k d => right; exact ⟨hk d rfl, rfl⟩
  | o t s =>
    have h1 : dullAll g ss s = (g s).dull := by simp [dullAll, hs s rfl]
    have h2 : dullAll g ss t = g t ∨ dullAll g ss t = (g t).dull := by unfold dullAll; split <;> simp
    left
    simp only [PX.ev]
    cases hg : g t <;> rw [hg] at h2 <;> simp only [D.dull, or_self] at h2
    all_goals first
      | (rcases h2 with h2 | h2 <;> rw [h2] <;> rfl)
      | (rw [h2]; first | rfl | skip)
    rename_i s'
    by_cases e : s' = s
    · simp only [e, if_true]; exact h1
    · simp only [e, if_false]; rfl

/-- an operand that is lent, in the frame where its memory is settled -/
theorem Inv.lent {gd : G} (h : Inv P n S0 w0 S O gd tm w) {y : Operand} {x : PX} {d : D} (hx : chkX y x = true) (hl : lend g x = some d)
    (hev : x.ev gd = (x.ev g).dull ∨ ((x.ev g).owned = false ∧ x.ev gd = x.ev g)) : Rep S w d (rho tm y) := by
  unfold lend at hl
  split at hl <;> cases hl
  rename_i hp
  have pure : (x.ev g).isPure = true → Rep S w (x.ev g) (rho tm y) := fun hq => by
    have e : x.ev gd = x.ev g := by
      rcases hev with e | ⟨_, e⟩
      · rw [e, dull_pure hq]
      · exact e
    rw [← e]; exact h.opnd hx (by rw [e]; exact hq)
  cases hg : x.ev g <;> rw [hg] at hp <;> simp only [D.plain] at hp ⊢
  all_goals first
    | (simp [D.isPure] at hp; done)
    | (rw [hg] at pure; exact pure rfl)
    | skip
  · rename_i wr e m cs
    have e : x.ev gd = .own false e m cs := by
      rcases hev with e | ⟨e, _⟩
      · rw [e, hg]; rfl
      · rw [hg] at e; cases e
    obtain ⟨s, _, _, h3⟩ := h.opndOwn hx (by rw [e]; rfl)
    rw [e] at h3
    exact h3.rep
  · rename_i wr cs
    have e : x.ev gd = .box false cs := by
      rcases hev with e | ⟨e, _⟩
      · rw [e, hg]; rfl
      · rw [hg] at e; cases e
    obtain ⟨s, _, _, h3⟩ := h.opndOwn hx (by rw [e]; rfl)
    rw [e] at h3
    exact h3.repPt

theorem Inv.captured {gd : G} (h : Inv P n S0 w0 S O gd tm w) {y : Operand} {x : PX} {d : D} (hx : chkX y x = true) (hl : capt g x = some d)
    (hev : x.ev gd = (x.ev g).dull ∨ ((x.ev g).owned = false ∧ x.ev gd = x.ev g)) : Rep S w d (rho tm y) := by
  unfold capt at hl
  split at hl <;> cases hl
  · rename_i wr cs hg
    have e : x.ev gd = .box false cs := by
      rcases hev with e | ⟨e, _⟩
      · rw [e, hg]; rfl
      · rw [hg] at e; cases e
    obtain ⟨s, _, _, h3⟩ := h.opndOwn hx (by rw [e]; rfl)
    rw [e] at h3
    exact h3.repPt
  · rename_i cs hg
    have e : x.ev gd = .pt cs := by
      rcases hev with e | ⟨_, e⟩
      · rw [e, hg]; rfl
      · rw [e, hg]
    have := h.opnd hx (by rw [e]; rfl)
    rw [e] at this; exact this

theorem sound_fld (ag : Bool) (off m : Nat) (x : PX) : Sound P (.fld ag off m x) := by
  intro n S0 S w0 w O g tm o dst l hI hc hrd hdst hrun hal
  simp only [chkOp] at hc
  split at hc <;> try (cases hc; done)
  rename_i t a f hop
  simp only [Bool.and_eq_true] at hc
  obtain ⟨h1, h3⟩ := hc
  split at h3 <;> try (cases h3; done)
  rename_i fs hu
  split at h3 <;> try (cases h3; done)
  rename_i fl hf
  simp only [Bool.and_eq_true, beq_iff_eq] at h3
  obtain ⟨⟨⟨h3, h4⟩, h5⟩, h6⟩ := h3
  subst h3; subst h5
  simp only [K.run] at hrun
  split at hrun <;> try (cases hrun; done)
  rename_i cs ha
  rw [Option.map_eq_some_iff] at hrun
  obtain ⟨d, hd, rfl⟩ := hrun
  have hr := hI.opnd h1 (by rw [ha]; rfl)
  rw [ha] at hr
  obtain ⟨vs, e1, hreps, h7⟩ := hr.agg_inv
  obtain ⟨g1, g2, g3⟩ := ofCells_rep (S := S) (w := w) hd (hreps.drop fl.offset) (fun x hx => h7 x (List.mem_of_mem_drop hx))
  refine hI.val hdst (by simpa [K.kills] using hal) g3 ?_
  have hpart : (part fl.type vs.toArray fl.offset).run P w = .ok (if ag then .agg ((vs.drop fl.offset).take (P.cellsOf fl.type)).toArray else ((vs.drop fl.offset).take (P.cellsOf fl.type)).headD undef) w := by
    unfold isAggB at h4
    cases hu2 : P.underlying fl.type with
    | none => simp [hu2] at h4
    | some u =>
      rw [hu2] at h4
      have haggd : (isAgg fl.type).run P w = .ok ag w := by cases u <;> simp at h4 <;> subst h4 <;> simp [isAgg, run_underlying hu2]
      unfold part
      rw [Sem.run_bind, haggd]
      simp only [Result.andThen_ok]
      cases ag with
      | true =>
        simp only [if_true]
        rw [Sem.run_bind, run_sizeOf h6]
        simp [List.extract_eq_take_drop]
      | false =>
        have h9 := g2 rfl
        simp only [Bool.false_eq_true, if_false]
        rw [h9] at g1 ⊢
        have h10 : fl.offset < vs.length := by simp at g1; omega
        have h11 : vs[fl.offset]? = some vs[fl.offset] := List.getElem?_eq_getElem h10
        have h12 : ((vs.drop fl.offset).take 1).headD undef = vs[fl.offset] := by
          rw [List.drop_eq_getElem_cons h10]; rfl
        rw [h12]
        simp [h11]
  simp [execOp, hop, e1, Instr.field, run_underlying hu, hf, asAgg, hpart]

theorem part_run {e : TypeId} {ag : Bool} {m off : Nat} {vs : List Value} (h4 : isAggB P e = some ag) (h5 : P.cellsOf e = m) (h6 : (P.info? e).isSome = true) (g1 : ag = false → m = 1) (g2 : off + m ≤ vs.length) :
    (part e vs.toArray off).run P w = .ok (if ag then .agg ((vs.drop off).take m).toArray else ((vs.drop off).take m).headD undef) w := by
  subst h5
  unfold isAggB at h4
  cases hu2 : P.underlying e with
  | none => simp [hu2] at h4
  | some u =>
    rw [hu2] at h4
    have haggd : (isAgg e).run P w = .ok ag w := by cases u <;> simp at h4 <;> subst h4 <;> simp [isAgg, run_underlying hu2]
    unfold part
    rw [Sem.run_bind, haggd]
    simp only [Result.andThen_ok]
    cases ag with
    | true =>
      simp only [if_true]
      rw [Sem.run_bind, run_sizeOf h6]
      simp [List.extract_eq_take_drop]
    | false =>
      have h9 := g1 rfl
      simp only [Bool.false_eq_true, if_false]
      rw [h9] at g2 ⊢
      have h10 : off < vs.length := by omega
      have h11 : vs[off]? = some vs[off] := List.getElem?_eq_getElem h10
      have h12 : ((vs.drop off).take 1).headD undef = vs[off] := by
        rw [List.drop_eq_getElem_cons h10]; rfl
      rw [h12]
      simp [h11]

theorem sound_ixA (ag : Bool) (n' m : Nat) (x i : PX) : Sound P (.ixA ag n' m x i) := by
  intro n S0 S w0 w O g tm o dst l hI hc hrd hdst hrun hal
  simp only [chkOp] at hc
  split at hc <;> try (cases hc; done)
  rename_i t a b hop
  simp only [Bool.and_eq_true] at hc
  obtain ⟨⟨h1, h2⟩, h3⟩ := hc
  split at h3 <;> try (cases h3; done)
  rename_i nn e hu
  simp only [Bool.and_eq_true, beq_iff_eq] at h3
  obtain ⟨⟨⟨h3, h4⟩, h5⟩, h6⟩ := h3
  subst h3
  simp only [K.run] at hrun
  split at hrun <;> try (cases hrun; done)
  rename_i cs kd k ha hb
  split at hrun <;> try (cases hrun; done)
  rename_i hk
  rw [Option.map_eq_some_iff] at hrun
  obtain ⟨d, hd, rfl⟩ := hrun
  have hr := hI.opnd h1 (by rw [ha]; rfl)
  rw [ha] at hr
  obtain ⟨vs, e1, hreps, h7⟩ := hr.agg_inv
  obtain ⟨g1, g2, g3⟩ := ofCells_rep (S := S) (w := w) hd (hreps.drop (k.toNat * m)) (fun x hx => h7 x (List.mem_of_mem_drop hx))
  refine hI.val hdst (by simpa [K.kills] using hal) g3 ?_
  have g4 : k.toNat * m + m ≤ vs.length ∨ m = 0 := by rw [List.length_drop] at g1; omega
  have hpart : (part e vs.toArray (k.toNat * m)).run P w = .ok (if ag then .agg ((vs.drop (k.toNat * m)).take m).toArray else ((vs.drop (k.toNat * m)).take m).headD undef) w := by
    rcases g4 with g4 | g4
    · exact part_run h4 h5 h6 g2 g4
    · cases ag with
      | false => have := g2 rfl; omega
      | true =>
        subst g4
        exact part_run h4 h5 h6 (fun h => by cases h) (by simp)
  simp [execOp, hop, e1, hI.intOf h2 hb, Instr.index, asIntOf, run_underlying hu, hk.1, hk.2, run_sizeOf h6, h5, hpart]

theorem run_bounds {isS : Bool} {len cap l h : Nat} {lo hi : Option Value} (hh : match hi with | none => h = len | some v => ∃ k, ∃ i : Int, v = .int k i ∧ 0 ≤ i ∧ i ≤ cap ∧ h = i.toNat)
    (hl : match lo with | none => l = 0 | some v => ∃ k, ∃ i : Int, v = .int k i ∧ 0 ≤ i ∧ i ≤ h ∧ l = i.toNat) : (Instr.sliceBounds isS len cap lo hi none).run P w = .ok (l, h, cap) w := by
  cases hi with
  | none =>
    subst hh
    cases lo with
    | none => subst hl; simp [Instr.sliceBounds]
    | some v => obtain ⟨k, i, rfl, h1, h2, rfl⟩ := hl; simp [Instr.sliceBounds, run_sliceBound, h1, h2]
  | some v =>
    obtain ⟨k, i, rfl, h1, h2, rfl⟩ := hh
    cases lo with
    | none => subst hl; simp [Instr.sliceBounds, run_sliceBound, h1, h2]
    | some v =>
      obtain ⟨k', i', rfl, h3, h4, rfl⟩ := hl
      simp [Instr.sliceBounds, run_sliceBound, h1, h2]
      rw [run_sliceBound _ _ _ _ _ h3 h4]
      simp

theorem Inv.boundOf (hI : Inv P n S0 w0 S O g tm w) {yo : Option Operand} {xo : Option PX} (hx : chkXo yo xo = true) {dflt most h : Nat} (hb : bound g dflt most xo = some h) :
    (match yo.map (rho tm) with | none => h = dflt | some v => ∃ k, ∃ i : Int, v = .int k i ∧ 0 ≤ i ∧ i ≤ most ∧ h = i.toNat) ∧ (xo ≠ none → h ≤ most) := by
  cases yo <;> cases xo <;> simp only [chkXo] at hx <;> try (cases hx; done)
  · simp only [bound] at hb; cases hb; exact ⟨rfl, fun e => absurd rfl e⟩
  · simp only [bound] at hb
    split at hb <;> try (cases hb; done)
    rename_i k i he
    split at hb <;> cases hb
    rename_i hk
    exact ⟨⟨k, i, hI.intOf hx he, hk.1, hk.2, rfl⟩, fun _ => by omega⟩

theorem extract_mk (l : List UInt8) (a b : Nat) : (⟨l.toArray⟩ : ByteArray).extract a b = ⟨((l.take b).drop a).toArray⟩ := by
  apply ByteArray.ext
  simp [ByteArray.data_extract, List.extract_toArray, List.extract_eq_take_drop, List.drop_take]

theorem sound_slS (x : PX) (lo hi : Option PX) : Sound P (.slS x lo hi) := by
  intro n S0 S w0 w O g tm o dst l hI hc hrd hdst hrun hal
  simp only [chkOp] at hc
  split at hc <;> try (cases hc; done)
  rename_i t a lo' hi' hop
  simp only [Bool.and_eq_true] at hc
  obtain ⟨⟨⟨h1, h2⟩, h3⟩, h4⟩ := hc
  simp only [K.run] at hrun
  split at hrun <;> try (cases hrun; done)
  rename_i s ha
  split at hrun <;> try (cases hrun; done)
  rename_i h hh
  split at hrun <;> try (cases hrun; done)
  rename_i lo2 hl
  cases hrun
  obtain ⟨e1, hlen⟩ := hI.strOf h1 ha
  obtain ⟨b1, b2⟩ := hI.boundOf h3 hh
  obtain ⟨b3, b4⟩ := hI.boundOf h2 hl
  refine hI.val hdst (by simpa [K.kills] using hal) (.str _ (by simp; omega)) ?_
  have e2 : (⟨s.toArray⟩ : ByteArray).size = s.length := by show s.toArray.size = _; simp
  have hu := isStr_iff h4
  have key := run_bounds (P := P) (w := w) (isS := false) (len := s.length) (cap := s.length) b1 b3
  simp [execOp, hop, e1, Instr.sliceAt, run_underlying hu, Instr.slice, e2, key, extract_mk]

theorem Rep.sl_len {m : Nat} {cs : List D} {v : Value} (h : Rep S w (.sl m cs) v) : ∃ a cap, v = .slice a m cap ∧ m ≤ cap ∧ cap ≤ maxLen := by
  cases h with
  | sl0 a cap hc => exact ⟨a, cap, rfl, Nat.zero_le _, hc⟩
  | slN => exact ⟨none, 0, rfl, Nat.le_refl _, Nat.zero_le _⟩
  | sl m ds b off cap vs hl h1 hn hc hr h => exact ⟨_, cap, rfl, hn, hc⟩

theorem Rep.cut {m sz l h : Nat} {cs : List D} {a : Option Addr} {cap : Nat} (hr : Rep S w (.sl m cs) (.slice a m cap)) (hlh : l ≤ h) (hm : h ≤ m) (hsz : m * sz = cs.length) :
    Rep S w (.sl (h - l) (Pi.cut sz l h cs)) (.slice (if cap = l then a else a.map (·.add (l * sz))) (h - l) (cap - l)) := by
  cases hr with
  | sl0 a cap hc =>
    have : h = 0 := by omega
    subst this
    have : l = 0 := by omega
    subst this
    simp only [Pi.cut, List.take_nil, List.drop_nil]
    exact .sl0 _ _ (by omega)
  | slN => simp at hsz
  | sl m ds b off cap vs hl h1 hn hc hr hh =>
    by_cases e : cap = l
    · have : h = l := by omega
      subst this
      have e2 : Pi.cut sz h h cs = [] := by simp [Pi.cut]
      rw [e2, Nat.sub_self]
      exact .sl0 _ _ (by omega)
    · rw [if_neg e]
      simp only [Option.map_some, Addr.addL]
      have r1 : Reps S w (Pi.cut sz l h cs) ((vs.take (h * sz)).drop (l * sz)) := (Reps.take ⟨hl, hh⟩ _).drop _
      refine .sl _ _ _ _ _ _ r1.1 (fun d hd => h1 d (List.mem_of_mem_take (List.mem_of_mem_drop hd))) (by omega) (by omega) ((hr.take _).drop _) r1.2

theorem sound_slc (sz : Nat) (x : PX) (lo hi : Option PX) : Sound P (.slc sz x lo hi) := by
  intro n S0 S w0 w O g tm o dst l hI hc hrd hdst hrun hal
  simp only [chkOp] at hc
  split at hc <;> try (cases hc; done)
  rename_i t a lo' hi' hop
  simp only [Bool.and_eq_true] at hc
  obtain ⟨⟨⟨h1, h2⟩, h3⟩, h4⟩ := hc
  split at h4 <;> try (cases h4; done)
  rename_i e hu
  simp only [Bool.and_eq_true, beq_iff_eq] at h4
  obtain ⟨h4, h5⟩ := h4
  subst h4
  simp only [K.run] at hrun
  split at hrun <;> try (cases hrun; done)
  rename_i s m cs hs hv
  split at hrun <;> try (cases hrun; done)
  rename_i h hh
  split at hrun <;> try (cases hrun; done)
  rename_i lo2 hl
  split at hrun <;> cases hrun
  rename_i hsz
  obtain ⟨b1, b2⟩ := hI.boundOf h3 hh
  obtain ⟨b3, b4⟩ := hI.boundOf h2 hl
  have hhm : h ≤ m := by
    cases hi with
    | none => simp only [bound] at hh; cases hh; exact Nat.le_refl _
    | some z => exact b2 (by simp)
  have hlh : lo2 ≤ h := by
    cases lo with
    | none => simp only [bound] at hl; cases hl; exact Nat.zero_le _
    | some z => exact b4 (by simp)
  have hsd : s ≠ dst := fun e => hrd (by simp only [K.reads, List.mem_append]; exact .inl (.inl (e ▸ PX.slot_reads hs)))
  obtain ⟨S', hI', hSS⟩ := hI.dullAll [s]
  have hlend : lend g x = some (.sl m cs) := by
    cases hg : x.ev g <;> rw [hg] at hv <;> simp only [D.slv] at hv <;> cases hv <;> simp [lend, hg, D.plain, D.isPure]
  have hr := hI'.lent h1 hlend (ev_dullAll [s] x (fun d e => chkX_k (e ▸ h1)) (fun s' e => by rw [hs] at e; cases e; simp))
  obtain ⟨ad, cap, e1, hcap, hmax⟩ := hr.sl_len
  rw [e1] at hr
  have hr2 := hr.cut hlh hhm hsz
  have h6 := hI'.setPure hI'.extRefl (fun _ _ z => z) (fun _ _ z => .inl z) hr2 hdst (fun t' s1 z1 z2 => by
    rw [alias_dullAll] at z1
    exact halD rfl hal t' s1 z1 z2)
  have eg : upds g [(dst, .sl (h - lo2) (cut (P.cellsOf e) lo2 h cs)), (s, (g s).dull)] = upd (dullAll g [s]) dst (.sl (h - lo2) (cut (P.cellsOf e) lo2 h cs)) := by
    simp only [upds]
    rw [upd_comm g _ _ (fun z => hsd z.symm)]
    congr 1
    funext t'
    simp only [upd, dullAll, List.mem_singleton]
    split
    · rename_i e; rw [e]
    · rfl
  rw [eg]
  have key := run_bounds (P := P) (w := w) (isS := true) (len := m) (cap := cap) (lo := lo'.map (rho tm)) (hi := hi'.map (rho tm)) (l := lo2) (h := h)
    (by cases hq : hi'.map (rho tm) with
        | none => rw [hq] at b1; exact b1
        | some v => rw [hq] at b1; obtain ⟨k, i, z1, z2, z3, z4⟩ := b1; exact ⟨k, i, z1, z2, by omega, z4⟩) b3
  refine ⟨_, w, ?_, S', _, _, h6⟩
  simp [execOp, hop, e1, Instr.sliceAt, run_underlying hu, Instr.slice, key, run_sizeOf h5]

theorem sound_cvSB (x : PX) : Sound P (.cvSB x) := by
  intro n S0 S w0 w O g tm o dst l hI hc hrd hdst hrun hal
  simp only [chkOp] at hc
  split at hc <;> try (cases hc; done)
  rename_i st t a hop
  simp only [Bool.and_eq_true] at hc
  obtain ⟨⟨h1, h2⟩, h3⟩ := hc
  split at h3 <;> try (cases h3; done)
  rename_i e hu
  simp only [K.run] at hrun
  split at hrun <;> try (cases hrun; done)
  rename_i s ha
  cases hrun
  obtain ⟨e1, hlen⟩ := hI.strOf h1 ha
  have key := run_bytes_of_string (P := P) w st t e ⟨s.toArray⟩ (isStr_iff h2) hu (isInt_iff h3)
  have e2 : (⟨s.toArray⟩ : ByteArray).size = s.length := by show s.toArray.size = _; simp
  rw [e2] at key
  generalize hcap : grownCap w s.length 0 e = cap at key
  have hcl : s.length ≤ cap := by rw [← hcap]; exact grownCap_ge _ _ _ _
  have hcm : cap ≤ maxLen := by rw [← hcap]; exact grownCap_le_maxLen _ _ _ _ hlen
  generalize hrow : bytesRow ⟨s.toArray⟩ cap = row at key
  have hx : Ext w0 w (w.drew.alloc (.cells row e (row.size, row.size + 1))) := (hI.extRefl.drew).alloc hI.below.size _
  have hsz : (w.drew.alloc (.cells row e (row.size, row.size + 1))).heap.size = w.heap.size + 1 := by simp
  have hcell : ∀ (i : Nat) (v : Value), ((s.map fun b => Value.int .u8 (b.toNat : Int)))[i]? = some v → row[i]? = some v := by
    intro i v hi
    have hlt : i < s.length := by simpa using (List.getElem?_eq_some_iff.1 hi).1
    have := bytesRow_at ⟨s.toArray⟩ cap i (by simpa using hlt)
    rw [hrow] at this
    rw [this]
    simp [List.getElem?_map, List.getElem?_eq_getElem hlt] at hi
    simp [← hi]
  refine ⟨.slice (some ⟨w.heap.size, 0, none⟩) s.length cap, w.drew.alloc (.cells row e (row.size, row.size + 1)), by simp [execOp, hop, e1, key], _, _, _, hI.setPure (S' := fun b o => S b o ∨ b = w.heap.size) hx (fun _ _ z => .inl z) (fun b o z => z.imp id (fun e => by rw [hsz]; omega)) ?_ hdst (halD rfl hal)⟩
  refine .sl _ _ _ _ _ (s.map fun b => Value.int .u8 (b.toNat : Int)) (by simp) (fun d hd => by simp at hd; obtain ⟨b, _, rfl⟩ := hd; rfl) hcl hcm ?_ ?_
  · intro i v hi
    refine ⟨.inr rfl, ?_⟩
    rw [Nat.zero_add]
    have := hcell i v hi
    have hb : (w.drew.alloc (.cells row e (row.size, row.size + 1))).heap[w.heap.size]? = some (.cells row e (row.size, row.size + 1)) := by
      show (w.heap.push _)[w.heap.size]? = _
      simp
    rw [cell_of_row _ _ _ _ _ _ hb]
    exact this
  · intro i d v hd hv
    simp only [List.getElem?_map, Option.map_eq_some_iff] at hd hv
    obtain ⟨b1, z1, rfl⟩ := hd
    obtain ⟨b2, z2, rfl⟩ := hv
    rw [z1] at z2; cases z2
    exact .int _ _

theorem bytesOf_cells {cs : List D} {l : List UInt8} (h : bytesOf cs = some l) : cs = l.map fun b => .int .u8 (b.toNat : Int) := by
  induction cs generalizing l with
  | nil => simp [bytesOf] at h; subst h; rfl
  | cons c cs ih =>
    unfold bytesOf at h
    split at h
    · simp at *
    · rename_i m r e
      cases e
      split at h <;> try (cases h; done)
      rename_i hm
      rw [Option.map_eq_some_iff] at h
      obtain ⟨l', h1, rfl⟩ := h
      rw [ih h1]
      simp only [List.map_cons, List.cons.injEq, D.int.injEq, true_and, and_true]
      have h2 : m.toNat < 256 := by omega
      rw [UInt8.toNat_ofNat_of_lt' (by simpa using h2)]
      omega
    · cases h

theorem Inv.plainSlice (hI : Inv P n S0 w0 S O g tm w) {y : Operand} {x : PX} {m : Nat} {cs : List D} (hx : chkX y x = true) (hv : (x.ev g).slv = some (m, cs)) :
    ∃ S', Rep S' w (.sl m cs) (rho tm y) := by
  obtain ⟨S', hI', hSS⟩ := hI.dullAll x.slot.toList
  have hlend : lend g x = some (.sl m cs) := by
    cases hg : x.ev g <;> rw [hg] at hv <;> simp only [D.slv] at hv <;> cases hv <;> simp [lend, hg, D.plain, D.isPure]
  exact ⟨S', hI'.lent hx hlend (ev_dullAll _ x (fun d e => chkX_k (e ▸ hx)) (fun s' e => by rw [e]; simp))⟩

theorem sound_cvBS (x : PX) : Sound P (.cvBS x) := by
  intro n S0 S w0 w O g tm o dst l hI hc hrd hdst hrun hal
  simp only [chkOp] at hc
  split at hc <;> try (cases hc; done)
  rename_i st t a hop
  simp only [Bool.and_eq_true] at hc
  obtain ⟨⟨h1, h2⟩, h3⟩ := hc
  split at h3 <;> try (cases h3; done)
  rename_i e hu
  simp only [K.run] at hrun
  split at hrun <;> try (cases hrun; done)
  rename_i m cs hv
  split at hrun <;> try (cases hrun; done)
  rename_i hm
  rw [Option.map_eq_some_iff] at hrun
  obtain ⟨s, hs, rfl⟩ := hrun
  obtain ⟨S', hr⟩ := hI.plainSlice h1 hv
  have hcs := bytesOf_cells hs
  have hml : m = s.length := by rw [hm, hcs]; simp
  have hmax : s.length ≤ maxLen := by obtain ⟨_, cap, _, z1, z2⟩ := hr.sl_len; omega
  refine hI.val hdst (by simpa [K.kills] using hal) (.str s hmax) ?_
  generalize hq : rho tm a = v at hr
  cases hr with
  | slN => simp [bytesOf] at hs
  | sl0 ad cap hcap =>
    have : s = [] := by cases s <;> simp at hml ⊢
    subst this
    cases ad with
    | none =>
      simp [execOp, hop, hq, convert, run_underlying hu, run_underlying (isStr_iff h2), run_underlying (isInt_iff h3), Conv.bytesToString]
      rfl
    | some ad =>
      have key := run_convert_bytes_back (P := P) w st t e ad cap [] hu (isInt_iff h3) (isStr_iff h2) (fun j hj => by simp at hj)
      simp only [List.length_nil] at key
      simp [execOp, hop, hq, key]
  | sl m ds b off cap vs hl h6 hn hcap hrow h =>
    have key := run_convert_bytes_back (P := P) w st t e ⟨b, off, none⟩ cap s hu (isInt_iff h3) (isStr_iff h2) (fun j hj => by
      rw [Addr.addL]
      have hd : cs[j]? = some (.int .u8 (s[j].toNat : Int)) := by rw [hcs]; simp [List.getElem?_eq_getElem hj]
      obtain ⟨v, hv1, hv2⟩ := Reps.get ⟨hl, h⟩ hd
      rw [(hrow j v hv1).2, hv2.int_inv])
    rw [← hml] at key
    simp [execOp, hop, hq, key]

end Go.Pi
