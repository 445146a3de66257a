/-
  THE PROOFS, seventh part: stores and appends. Own work.
-/
import Derived.Test.YthfgjhnckegneaaGreatDoorPiM
namespace Go.Pi
open Go Go.RowKit

variable {P : Program} {n : Nz} {S0 S : Nat → Nat → Prop} {w0 w : World} {O : Nat → Option Nat} {g : G} {tm : Array Value} {o : Oper} {dst : Nat}

theorem setMem_owned {d : D} {cs : List D} (h : d.owned = true) : (d.setMem cs).owned = true := by cases d <;> first | rfl | simp [D.owned] at h

theorem sound_st {m : Nat} {x v : PX} {l : List (Nat × D)} (hI : Inv P n S0 w0 S O g tm w) (hc : chkOp P o (.st m x v) = true) (hrun : (K.st m x v).run dst g = some l) :
    ∃ w', (execOp (rho tm) o).run P w = .ok .skip w' ∧ Good P n S0 w0 (upds g l) tm w' := by
  simp only [chkOp] at hc
  split at hc <;> try (cases hc; done)
  rename_i t a b hop
  simp only [Bool.and_eq_true, beq_iff_eq] at hc
  obtain ⟨⟨⟨h1, h2⟩, h3⟩, h4⟩ := hc
  simp only [K.run] at hrun
  split at hrun <;> try (cases hrun; done)
  rename_i s off ha
  split at hrun <;> cases hrun
  rename_i hk
  obtain ⟨k1, k2, k3, k4, k5⟩ := hk
  obtain ⟨bb, h8, e1, _⟩ := hI.ownOf h1 ha
  have hown : (g s).owned = true := by cases hg : g s <;> rw [hg] at k1 <;> first | rfl | simp [D.wr] at k1
  obtain ⟨r1, r2⟩ := cells_rep (hI.opnd h2 k5) k4
  have hsl := hI.slot s
  obtain ⟨arr, e, hb, hreps, h5⟩ := hsl.block hown h8
  have hml : (g s).mem.length ≤ arr.size := by
    have := hreps.1
    rw [List.length_take] at this
    simp at this; omega
  have hvl : (rho tm b).cells.size = m := by rw [← k2]; simpa using r1.1.symm
  have hfit : off + 0 + (rho tm b).cells.toList.length ≤ arr.size := by simp; omega
  have hex := run_storeCells_at P bb off e (rho tm b).cells.toList 0 arr w hb hfit (fun u hu => by
    obtain ⟨i, hi⟩ := List.getElem?_of_mem hu
    have hlt : i < (v.ev g).cells.length := by rw [r1.1]; exact (List.getElem?_eq_some_iff.1 hi).1
    exact (r1.2 i _ u (List.getElem?_eq_getElem hlt) hi).oneCell (r2 _ (List.getElem_mem hlt)))
  simp only [Nat.add_zero] at hex
  generalize hnew : (arr.toList.take off ++ (rho tm b).cells.toList ++ arr.toList.drop (off + (rho tm b).cells.toList.length)).toArray = arr' at hex
  have hnl : arr'.toList = arr.toList.take off ++ (rho tm b).cells.toList ++ arr.toList.drop (off + (rho tm b).cells.toList.length) := by rw [← hnew]
  have hsz' : arr'.size = arr.size := by
    have := congrArg List.length hnl
    simp at this; omega
  -- nothing of the block is settled
  have hnoS : ∀ j, ¬ S bb j := by
    intro j hj
    rw [SR.owned_iff hown] at hsl
    cases hg : g s <;> rw [hg] at hown k1 hsl <;> (try (simp [D.owned] at hown; done)) <;> simp only [D.wr] at k1 <;> subst k1 <;> simp only [OwnR] at hsl
    · rcases hsl with ⟨z, _⟩ | ⟨b', cap, ar, z1, z2, z3, z4, z5, z6, z7, z8, z9, z10, z11⟩
      · rw [h8] at z; cases z
      · rw [h8] at z1; cases z1; simpa using (z10 j hj).1
    · obtain ⟨b', ar, e', z1, z2, z3, z8, z9, z10, z11⟩ := hsl
      rw [h8] at z1; cases z1; simpa using (z10 j hj).1
  have hcells : ∀ b' o', S b' o' → (w.setRow bb arr').cell? ⟨b', o', none⟩ = w.cell? ⟨b', o', none⟩ := fun b' o' hs => cell_setRow_other w bb arr' _ (fun z => hnoS o' (by simp at z; subst z; exact hs))
  have hspl : Reps S w (splice (g s).mem off (v.ev g).cells) (arr'.toList.take (g s).mem.length) := by
    have h9 := Reps.splice (off := off) hreps r1
    have e2 : (arr.toList.take (g s).mem.length).take off ++ (rho tm b).cells.toList ++ (arr.toList.take (g s).mem.length).drop (off + (rho tm b).cells.toList.length) = arr'.toList.take (g s).mem.length := by
      rw [hnl]
      apply List.ext_getElem?
      intro k
      rw [splice_get _ _ _ (by simp; omega)]
      simp only [List.getElem?_take]
      rw [splice_get _ _ _ (by simp; omega)]
      by_cases h10 : k < (g s).mem.length
      · simp only [h10, if_true]
      · simp only [h10, if_false]
        rw [if_neg (by simp; omega)]
    rw [e2] at h9; exact h9
  have hone : ∀ d ∈ splice (g s).mem off (v.ev g).cells, d.one = true := fun d hd => by
    unfold splice at hd
    simp only [List.mem_append] at hd
    rcases hd with (hd | hd) | hd
    · exact h5 d (List.mem_of_mem_take hd)
    · exact r2 d hd
    · exact h5 d (List.mem_of_mem_drop hd)
  have hspl2 := hspl.mono (S' := S) (w' := w.setRow bb arr') (fun _ _ z => z) hcells
  have hsll : (splice (g s).mem off (v.ev g).cells).length = (g s).mem.length := by unfold splice; simp; omega
  have hI2 := hI.ownChange (s := s) (b := bb) (d' := (g s).setMem (splice (g s).mem off (v.ev g).cells)) (w' := w.setRow bb arr') (S' := S) h8 ⟨_, _, _, hb⟩ (setMem_owned hown) (fun _ _ z => z) (fun _ _ z => .inl z)
    (fun k hk => setRow_other w bb k arr' hk) (fun o' hs => absurd hs (hnoS o')) (setRow_size w bb arr') rfl rfl rfl (by
      rw [SR.owned_iff hown] at hsl
      rw [h8] at hsl
      have hb' := setRow_heap w bb arr arr' e (0, 0) hb
      cases hg : g s <;> rw [hg] at hown k1 hsl hspl2 hone hsll <;> (try (simp [D.owned] at hown; done)) <;> simp only [D.wr] at k1 <;> subst k1 <;> simp only [OwnR, D.setMem, D.mem] at hsl hspl2 hone hsll ⊢
      · rcases hsl with ⟨z, _⟩ | ⟨b', cap, ar, z1, z2, z3, z4, z5, z6, z7, z8, z9, z10, z11⟩
        · cases z
        · cases z1
          rw [hb] at z3; cases z3
          exact .inr ⟨bb, cap, arr', rfl, z2, hb', z4, z5, by rw [hsz']; exact z6, by rw [hsll]; exact z7, by rw [← z7]; exact hspl2, hone, fun j hj => absurd hj (hnoS j), fun hf => by cases hf⟩
      · obtain ⟨b', ar, e', z1, z2, z3, z8, z9, z10, z11⟩ := hsl
        cases z1
        rw [hb] at z3; cases z3
        refine ⟨bb, arr', e, rfl, z2, hb', ?_, hone, fun j hj => absurd hj (hnoS j), fun hf => by cases hf⟩
        rw [List.take_of_length_le (by rw [z8.1]; simp [hsz'])] at hspl2
        exact hspl2)
  refine ⟨w.setRow bb arr', ?_, S, O, _, hI2⟩
  have hsv : (storeVar t ⟨bb, off, none⟩ (rho tm b)).run P w = .ok () (w.setRow bb arr') := by
    unfold storeVar
    rw [Sem.run_bind, run_sizeOf h4]
    simp only [Result.andThen_ok]
    rw [if_neg (by rw [h3, hvl]; simp)]
    simp [hex]
  simp [execOp, hop, e1, Instr.storeAt, Instr.sureAddr, hsv]

/-- a slot gets an owned slice whose block nobody owns -/
theorem Inv.takeBlock {b cap m : Nat} {e : TypeId} {arr : Array Value} {ds : List D} {wr : Bool} (h : Inv P n S0 w0 S O g tm w) (hdg : dst < GB) (hu : g dst = .un) (hal : ∀ t' s, aliasOf (g t') = some s → s ≠ dst)
    (hv : tm.getD dst undef = .slice (some ⟨b, 0, none⟩) m cap) (hb : w.heap[b]? = some (.cells arr e (0, 0))) (hbase : w0.heap.size ≤ b) (hfree : ∀ t', O t' ≠ some b)
    (hm : m ≤ cap) (hc : cap ≤ maxLen) (hsz : arr.size = cap * P.cellsOf e) (hl : ds.length = m * P.cellsOf e) (hr : Reps S w ds (arr.toList.take (m * P.cellsOf e))) (h1 : ∀ d ∈ ds, d.one = true)
    (hS : ∀ j, S b j → wr = false ∧ j < ds.length) : Good P n S0 w0 (upd g dst (.own wr e m ds)) tm w := by
  have hlt : b < w.heap.size := (Array.getElem?_eq_some_iff.1 hb).1
  have h2 : Inv P n S0 w0 (fun b' j => S b' j ∨ (wr = false ∧ b' = b ∧ j < ds.length)) O g tm w := h.settle (fun _ _ z => .inl z) (fun b' j z => by
    rcases z with z | ⟨_, rfl, _⟩
    · exact .inl z
    · exact .inr ⟨hbase, hlt, hfree⟩)
  refine ⟨_, _, _, h2.put (O' := fun t' => if t' = dst then some b else O t') (t := dst) (d := .own wr e m ds) (fun t' e => by simp [e]) hu hal (fun b' z => by simp at z; subst z; exact ⟨hbase, hlt, hfree⟩) ?_ (.inr rfl)⟩
  simp only [SR, OwnR]
  refine .inr ⟨b, cap, arr, by simp, (tmOf_lt hdg).trans hv, hb, hm, hc, hsz, hl, hr.mono (fun _ _ z => .inl z) (fun _ _ _ => rfl), h1, fun j hj => ?_, fun hf j hj => .inr ⟨hf, rfl, hj⟩⟩
  rcases hj with hj | ⟨z1, _, z2⟩
  · exact hS j hj
  · exact ⟨z1, z2⟩

theorem run_append_none {t ty e : TypeId} (hu : P.underlying t = some (.slice e)) (hi : (P.info? e).isSome = true) {v x : Value} {a b : Option Addr} {m cap c : Nat} (hv : v = .slice a m cap) (hx : x = .slice b 0 c) (hm : m ≤ cap) :
    (Builtin.append_ #[t, t] ty #[v, x]).run P w = .ok v w := by
  obtain ⟨i, hi⟩ := Option.isSome_iff_exists.1 hi
  subst hv; subst hx
  cases b <;> cases a <;> simp [Builtin.append_, run_underlying hu, sizeOf, typeInfo, hi, Builtin.lenOf, Builtin.firstCells, hm, storeCells, loadCells, loadCellsFrom]

/-- the cells of a slice that is read as the source of an append -/
theorem Inv.srcCells (hI : Inv P n S0 w0 S O g tm w) {y : Operand} {x : PX} {k : Nat} {ms : List D} (hx : chkX y x = true) (hy : (x.ev g).slv = some (k, ms)) (hk : k ≠ 0) :
    ∃ sb so yc us, rho tm y = .slice (some ⟨sb, so, none⟩) k yc ∧ (∀ (j : Nat) (u : Value), us[j]? = some u → w.cell? ((⟨sb, so, none⟩ : Addr).add j) = some u) ∧ Reps S w ms us ∧ ∀ d ∈ ms, d.one = true := by
  cases hg : x.ev g <;> rw [hg] at hy <;> simp only [D.slv] at hy <;> cases hy
  · have hr := hI.opnd hx (by rw [hg]; rfl)
    rw [hg] at hr
    generalize hq : rho tm y = q at hr
    cases hr with
    | sl0 a' cap' hc' => exact absurd rfl hk
    | slN => exact absurd rfl hk
    | sl m' ds b' off cap' vs hl1 h11 hn' hc' hrow hh =>
      exact ⟨b', off, cap', vs, rfl, fun j u hj => by rw [Addr.addL]; exact (hrow j u hj).2, ⟨hl1, hh⟩, h11⟩
  · obtain ⟨s, _, _, h3⟩ := hI.opndOwn hx (by rw [hg]; rfl)
    rw [hg] at h3
    simp only [OwnR] at h3
    rcases h3 with ⟨_, _, rfl, _⟩ | ⟨b', cap, arr, z1, z2, z3, z4, z5, z6, z7, z8, z9, _⟩
    · exact absurd rfl hk
    · refine ⟨b', 0, cap, _, z2, fun j u hj => ?_, z8, z9⟩
      rw [Addr.addL, Nat.zero_add, cell_of_row w b' j arr _ (0, 0) z3]
      rw [List.getElem?_take] at hj
      split at hj
      · simpa using hj
      · cases hj

theorem sound_app (e sz bytes : Nat) (x y : PX) : Sound P (.app e sz bytes x y) := by
  intro n S0 S w0 w O g tm o dst l hI hc hrd hdst hrun hal
  simp only [chkOp] at hc
  split at hc <;> try (cases hc; done)
  rename_i args argTypes hop
  split at hc <;> try (cases hc; done)
  rename_i a b t t' ha ht
  simp only [Bool.and_eq_true, beq_iff_eq, decide_eq_true_eq] at hc
  obtain ⟨⟨⟨⟨⟨⟨⟨rfl, h1⟩, h2⟩, h3⟩, h4⟩, h5⟩, h6⟩, h7⟩ := hc
  cases arr2 ha; cases arr2 ht
  have hu := isSl_iff h3
  split at h7 <;> try (cases h7; done)
  rename_i i hi
  split at h7 <;> try (cases h7; done)
  rename_i zv hz
  have hzc : zv.cells.size = i.size := by simpa using h7
  have hsize : i.size = sz := by rw [← h4]; simp [Program.cellsOf, hi]
  have hbytes : i.bytes = bytes := by rw [← h5]; simp [Program.bytesOf, hi]
  simp only [K.run] at hrun
  split at hrun <;> try (cases hrun; done)
  rename_i s wr e' m cs k ms hs hx hy
  split at hrun <;> try (cases hrun; done)
  rename_i hk
  obtain ⟨rfl, k1, k2, k3⟩ := hk
  obtain ⟨s', q1, q2, q3⟩ := hI.opndOwn h1 (by rw [hx]; rfl)
  rw [hs] at q1; cases q1
  rw [hx] at q2 q3
  have hsd : s ≠ dst := fun e => hrd (by simp only [K.reads, List.mem_append]; exact .inl (e ▸ PX.slot_reads hs))
  -- the slots that are forgotten
  have hkills : (K.app e' sz bytes x y).kills dst = dst :: x.reads := rfl
  have hsr : s ∈ x.reads := PX.slot_reads hs
  have hd := hI.drops (dst :: x.reads) (fun t' s1 z1 z2 => by rw [← hkills] at z2 ⊢; exact hal t' s1 z1 z2)
  have hna : ∀ t' s1, aliasOf (if t' ∈ dst :: x.reads then D.un else g t') = some s1 → s1 ≠ dst := fun t' s1 z1 z2 => by
    split at z1
    · cases z1
    · rename_i hn; exact hn (by rw [← hkills]; exact hal t' s1 z1 (by rw [hkills]; simp [z2]))
  have hl : upds g l = upd (fun t' => if t' ∈ dst :: x.reads then D.un else g t') dst (.own wr e' (m + k) (cs ++ ms)) := by
    have hdr : dst ∉ x.reads := fun z => hrd (by simp only [K.reads, List.mem_append]; exact .inl z)
    cases x with
    | v t0 =>
      simp [PX.slot] at hs; subst hs
      simp only at hrun; cases hrun
      funext z
      simp only [upds, upd, PX.reads, List.mem_cons, List.not_mem_nil, or_false]
      by_cases z1 : z = t0
      · subst z1; simp [hsd]
      · by_cases z2 : z = dst
        · subst z2; simp [z1]
        · simp [z1, z2]
    | k d => simp [PX.slot] at hs
    | o t0 s0 =>
      simp [PX.slot] at hs; subst hs
      simp only at hrun; cases hrun
      simp only [PX.reads, List.mem_cons, List.not_mem_nil, or_false, not_or] at hdr
      funext z
      simp only [upds, upd, PX.reads, List.mem_cons, List.not_mem_nil, or_false]
      by_cases z1 : z = t0
      · subst z1
        have : ¬ z = dst := fun e => hdr.1 e.symm
        simp [this]
      · by_cases z2 : z = s0
        · subst z2; simp [z1, hsd]
        · by_cases z3 : z = dst
          · subst z3; simp [z1, z2]
          · simp [z1, z2, z3]
  rw [hl]
  have hexec : ∀ v w', (Builtin.append_ #[t, t] o.type #[rho tm a, rho tm b]).run P w = .ok v w' → (execOp (rho tm) o).run P w = .ok (.value v) w' := by
    intro v w' h
    simp [execOp, hop, resolve, invoke, builtin, h]
  have hinfo : (P.info? e').isSome = true := by rw [hi]; rfl
  simp only [OwnR] at q3
  have htm : ∀ v, (tm.setIfInBounds dst v).getD dst undef = v := fun v => (tmOf_lt (gv := n.gv) (hI.has hdst)).symm.trans (tmOf_set tm v (by rw [hI.size]; exact hdst.1) (hI.has hdst))
  have hfreeOf : ∀ bb, O s = some bb → ∀ t', (if t' ∈ dst :: x.reads then none else O t') ≠ some bb := fun bb z1 t' z => by
    split at z
    · cases z
    · rename_i hn; have := hI.inj t' s bb z z1; subst this; exact hn (List.mem_cons_of_mem _ hsr)
  have hnewfree : ∀ t', (if t' ∈ dst :: x.reads then none else O t') ≠ some w.heap.size := fun t' z => by
    split at z
    · cases z
    · have := (hI.base t' _ z).2; omega
  by_cases hk0 : k = 0
  · -- nothing is appended
    subst hk0
    have hms : ms = [] := by simpa using k1
    subst hms
    rw [List.append_nil, Nat.add_zero]
    obtain ⟨Sy, hry⟩ := hI.plainSlice h2 hy
    obtain ⟨ya, yc, ey, hyn, hyc⟩ := hry.sl_len
    rcases q3 with ⟨z1, z2, rfl, rfl⟩ | ⟨bb, cap, arr, z1, z2, z3, z4, z5, z6, z7, z8, z9, z10, z11⟩
    · refine ⟨_, w, hexec _ _ (run_append_none hu hinfo z2 ey (Nat.le_refl _)), S, _, _, (hd.touch _ hdst.2 (by simp) hna).put (O' := fun t' => if t' = dst then none else if t' ∈ dst :: x.reads then none else O t') (fun t' z => by simp [z]) (by simp) hna (fun b z => by simp at z) ?_ (.inl (hI.has hdst))⟩
      simp only [SR, OwnR]
      exact .inl ⟨by simp, by rw [tmOf_lt (hI.has hdst), htm]; exact z2, trivial, trivial⟩
    · exact ⟨_, w, hexec _ _ (run_append_none hu hinfo z2 ey z4), (hd.touch _ hdst.2 (by simp) hna).takeBlock (hI.has hdst) (by simp) hna (by rw [htm]; exact z2) z3 (hI.base s bb z1).1 (hfreeOf bb z1) z4 z5 z6 z7 z8 z9 z10⟩
  · -- something is appended: its cells
    obtain ⟨sb, so, yc, us, ey, hus, hys, h1ms⟩ := hI.srcCells h2 hy hk0
    have husl : us.length = k * sz := by rw [← hys.1]; exact k1
    have h1us : ∀ u ∈ us, u.oneCell' = true := fun u hu => by
      obtain ⟨j, hj⟩ := List.getElem?_of_mem hu
      have hlt : j < ms.length := by rw [hys.1]; exact (List.getElem?_eq_some_iff.1 hj).1
      exact (hys.2 j _ u (List.getElem?_eq_getElem hlt) hj).oneCell (h1ms _ (List.getElem_mem hlt))
    have h63 : m + k ≤ 9223372036854775807 := by simp only [maxLen] at k3; omega
    have hcap0 : ∀ old, grownCap w (m + k) old e' ≤ maxLen := fun old => grownCap_le_maxLen _ _ _ _ k3
    have hcap1 : ∀ old, m + k ≤ grownCap w (m + k) old e' := fun old => grownCap_ge _ _ _ _
    have hzz : ∀ c, (Builtin.zeroCells zv.cells c).size = c * sz := fun c => by simp [Builtin.zeroCells, hzc, hsize]
    -- a new block with old and new cells
    have fresh : ∀ (olds : List Value) (cap : Nat) (v : Value) (arr' : Array Value), v = .slice (some ⟨w.heap.size, 0, none⟩) (m + k) cap → Reps S w cs olds → (∀ d ∈ cs, d.one = true) → olds.length = m * sz → m + k ≤ cap → cap ≤ maxLen →
        arr'.toList = olds ++ us ++ (Builtin.zeroCells zv.cells (cap - (m + k))).toList → (Builtin.append_ #[t, t] o.type #[rho tm a, rho tm b]).run P w = .ok v (w.drew.alloc (.cells arr' e')) →
        ∃ v w', (execOp (rho tm) o).run P w = .ok (.value v) w' ∧ Good P n S0 w0 (upd (fun t' => if t' ∈ dst :: x.reads then D.un else g t') dst (.own wr e' (m + k) (cs ++ ms))) (tm.setIfInBounds dst v) w' := by
      intro olds cap v arr' hv hro h1o hlo hc1 hc2 harr hrun
      have hx : Ext w0 w (w.drew.alloc (.cells arr' e')) := (hI.extRefl.drew).alloc hI.below.size _
      have hI3 := (hd.touch v hdst.2 (by simp) hna).ext hx
      have hsz : arr'.size = cap * sz := by
        have := congrArg List.length harr
        simp [hzz, hlo, husl] at this
        rw [this, ← Nat.add_mul, ← Nat.add_mul]
        congr 1; omega
      have hcl : (cs ++ ms).length = (m + k) * sz := by rw [List.length_append, hro.1, hlo, k1, Nat.add_mul]
      have htk : arr'.toList.take ((m + k) * sz) = olds ++ us := by
        rw [harr, List.take_append_of_le_length (by rw [List.length_append, hlo, husl, Nat.add_mul]; exact Nat.le_refl _), List.take_of_length_le (by rw [List.length_append, hlo, husl, Nat.add_mul]; exact Nat.le_refl _)]
      have hcell : ∀ b' o', S b' o' → (w.drew.alloc (.cells arr' e')).cell? ⟨b', o', none⟩ = w.cell? ⟨b', o', none⟩ := fun b' o' z => cell_of_heap (hx.blocks b' (hI.ex b' o' z))
      refine ⟨v, _, hexec _ _ hrun, hI3.takeBlock (b := w.heap.size) (cap := cap) (arr := arr') (hI.has hdst) (by simp) hna (by rw [htm]; exact hv) (heap_new w.drew _) hI.below.size hnewfree hc1 hc2 (by rw [h4]; exact hsz) (by rw [h4]; exact hcl) ?_ ?_ (fun j hj => absurd hj (hI.noNew j))⟩
      · rw [h4, htk]; exact (hro.app hys).mono (fun _ _ z => z) hcell
      · intro d hd
        rcases List.mem_append.1 hd with z | z
        · exact h1o d z
        · exact h1ms d z
    rcases q3 with ⟨z1, z2, rfl, rfl⟩ | ⟨bb, cap, arr, z1, z2, z3, z4, z5, z6, z7, z8, z9, z10, z11⟩
    · -- onto nil
      have hr := run_append_nil (P := P) w t o.type e' i zv hu hi hz ⟨sb, so, none⟩ k yc us (by rw [hsize]; exact husl) hus (by omega) (by omega) (by rw [hbytes]; simp at k2; omega)
      refine fresh [] (grownCap w k 0 e') _ _ (by rw [Nat.zero_add]) .nil (fun d hd => by simp at hd) (by simp) (by have := hcap1 0; simpa using this) (by have := hcap0 0; simpa using this) ?_ (by rw [z2, ey]; exact hr)
      simp
    · by_cases hroom : m + k ≤ cap
      · -- within the capacity
        have hxs : (arr.toList.take (m * sz)).length = m * sz := by
          rw [List.length_take, Array.length_toList, z6, h4]
          exact Nat.min_eq_left (Nat.mul_le_mul_right _ z4)
        have hown : w.ownsRow w0.heap.size e' sz (.slice (some ⟨bb, 0, none⟩) m cap) m (arr.toList.take (m * sz)) :=
          ⟨hxs, .inr ⟨bb, cap, arr, rfl, (hI.base s bb z1).1, z3, z4, z5, by rw [z6, h4], rfl⟩⟩
        obtain ⟨w', hr, hown', hgrow⟩ := run_append_fits (P := P) w w0.heap.size t o.type e' i sz hu hi hsize bb m cap _ hown ⟨sb, so, none⟩ k yc us husl hus h1us hroom
        obtain ⟨hlen', hcase⟩ := hown'
        rcases hcase with ⟨hbad, _⟩ | ⟨g', cap', cur', e1, e2, e3, e4, e5, e6, e7⟩
        · cases hbad
        · simp only [Value.slice.injEq, Option.some.injEq, Addr.mk.injEq, and_true, true_and] at e1
          obtain ⟨rfl, rfl⟩ := e1
          have hcell : ∀ b' o', S b' o' → w'.cell? ⟨b', o', none⟩ = w.cell? ⟨b', o', none⟩ := fun b' o' z => by
            by_cases hbb : b' = bb
            · subst hbb
              have hj : o' < m * sz := by have := (z10 o' z).2; rw [z7, h4] at this; exact this
              rw [cell_of_row w' b' o' cur' e' (0, 0) e3, cell_of_row w b' o' arr e' (0, 0) z3]
              have h9 := congrArg (·[o']?) e7
              simp only [List.getElem?_take] at h9
              rw [if_pos (by rw [Nat.add_mul]; omega), List.getElem?_append_left (by rw [hxs]; exact hj), List.getElem?_take, if_pos hj] at h9
              simpa using h9
            · exact cell_of_heap (hgrow.block b' (hI.ex b' o' z) (fun z => hbb (by simpa using z)))
          have hI3 := (hd.touch (.slice (some ⟨bb, 0, none⟩) (m + k) cap) hdst.2 (by simp) hna).world (w' := w') (fun t' b' z => by
              refine hgrow.block b' ?_ (fun z' => ?_)
              · split at z
                · cases z
                · exact (hI.base t' b' z).2
              · have : b' = bb := by simpa using z'
                subst this
                exact hfreeOf b' z1 t' z) hcell (hI.below.grown hgrow hI.below.size (fun k' hk' => by cases hk'; exact (hI.base s bb z1).1)) hgrow.size
            (fun k' o' h1' h2' => (hgrow.block k' (Array.getElem?_eq_some_iff.1 h1').1 (fun z => by
              have : k' = bb := by simpa using z
              subst this
              rw [z3] at h1'; cases h1'; cases h2')).trans h1')
          refine ⟨_, w', hexec _ _ (by rw [z2, ey]; exact hr), hI3.takeBlock (b := bb) (cap := cap) (arr := cur') (hI.has hdst) (by simp) hna (by rw [htm]) e3 (hI.base s bb z1).1 (hfreeOf bb z1) hroom z5 (by rw [h4]; exact e6) (by rw [List.length_append, z7, h4, k1, Nat.add_mul]) ?_ ?_ (fun j hj => ?_)⟩
          · rw [h4, e7]
            rw [h4] at z8
            exact (z8.app hys).mono (fun _ _ z => z) hcell
          · intro d hd
            rcases List.mem_append.1 hd with z | z
            · exact z9 d z
            · exact h1ms d z
          · have := z10 j hj
            exact ⟨this.1, by rw [List.length_append]; omega⟩
      · -- a new array
        have hxs : (arr.toList.take (m * sz)).length = m * i.size := by
          rw [List.length_take, Array.length_toList, z6, h4, hsize]
          exact Nat.min_eq_left (Nat.mul_le_mul_right _ z4)
        have hr := run_append_grow (P := P) w t o.type e' i zv hu hi hz ⟨bb, 0, none⟩ m cap (arr.toList.take (m * sz)) hxs (fun j v hj => by
            rw [Addr.addL, Nat.zero_add, cell_of_row w bb j arr e' (0, 0) z3]
            rw [List.getElem?_take] at hj
            split at hj
            · simpa using hj
            · cases hj) ⟨sb, so, none⟩ k yc us (by rw [hsize]; exact husl) hus (by omega) (by omega) (growslice_fits (by omega) (by rw [hbytes]; exact k2))
        rw [h4] at z8
        refine fresh (arr.toList.take (m * sz)) (grownCap w (m + k) cap e') _ _ rfl z8 z9 (by rw [hxs, hsize]) (hcap1 cap) (hcap0 cap) ?_ (by rw [z2, ey]; exact hr)
        simp

end Go.Pi
