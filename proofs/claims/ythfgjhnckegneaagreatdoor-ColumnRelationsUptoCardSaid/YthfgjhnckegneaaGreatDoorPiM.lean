/-
  THE PROOFS, sixth part: new memory. Own work.
-/
import Derived.Test.YthfgjhnckegneaaGreatDoorPiL
import Derived.Great.FillDense
import Derived.Great.BuildSlice
namespace Go.Pi
open Go Go.RowKit

variable {P : Program} {n : Nz} {S0 S : Nat → Nat → Prop} {w0 w : World} {O : Nat → Option Nat} {g : G} {tm : Array Value} {o : Oper} {dst : Nat}

theorem constsOk_reps : ∀ {vs : List Value} {z : List D}, constsOk vs z = true → Reps S w z vs ∧ ∀ d ∈ z, d.one = true
  | [], [], _ => ⟨.nil, fun d hd => by simp at hd⟩
  | [], _ :: _, h => by simp [constsOk] at h
  | _ :: _, [], h => by simp [constsOk] at h
  | v :: vs, d :: z, h => by
    simp only [constsOk, Bool.and_eq_true] at h
    obtain ⟨⟨h1, h2⟩, h3⟩ := h
    have ⟨h4, h5⟩ := constsOk_reps h3
    refine ⟨.cons (constOk_rep h1) h4, fun e he => ?_⟩
    rcases List.mem_cons.1 he with rfl | he
    · exact h2
    · exact h5 e he

theorem zeroOk_spec {t : TypeId} {z : List D} (h : zeroOk P t z = true) : ∃ i v, P.info? t = some i ∧ i.zero = some v ∧ constsOk v.cells.toList z = true ∧ i.size = z.length ∧ P.cellsOf t = z.length ∧ v.cells.size = z.length := by
  unfold zeroOk at h
  split at h <;> try (cases h; done)
  rename_i i hi
  split at h <;> try (cases h; done)
  rename_i v hv
  simp only [Bool.and_eq_true, beq_iff_eq] at h
  refine ⟨i, v, hi, hv, h.1, h.2, by simp [Program.cellsOf, hi, h.2], ?_⟩
  have := (constsOk_reps (S := fun _ _ => True) (w := default) h.1).1.1
  simpa using this.symm

theorem heap_new (w : World) (ob : Obj) : (w.alloc ob).heap[w.heap.size]? = some ob := by
  show (w.heap.push ob)[w.heap.size]? = _
  simp

theorem Inv.noNew (h : Inv P n S0 w0 S O g tm w) (j : Nat) : ¬ S w.heap.size j := fun x => by have := h.ex _ _ x; omega

theorem heap_cell_old (w : World) (ob : Obj) {b o : Nat} (h : b < w.heap.size) : (w.alloc ob).cell? ⟨b, o, none⟩ = w.cell? ⟨b, o, none⟩ :=
  cell_of_heap (Below.heap_alloc w ob b h)

theorem Inv.repsAlloc (h : Inv P n S0 w0 S O g tm w) {ds : List D} {vs : List Value} (hr : Reps S w ds vs) (ob : Obj) : Reps S (w.alloc ob) ds vs :=
  hr.mono (fun _ _ x => x) (fun b o x => heap_cell_old w ob (h.ex b o x))

/-- a new box -/
theorem Inv.newBox {ds : List D} {cells : Array Value} {e : TypeId} (h : Inv P n S0 w0 S O g tm w) (hr : Reps S w ds cells.toList) (h1 : ∀ d ∈ ds, d.one = true) (hdst : n.Has dst)
    (hal : ∀ t' s, aliasOf (g t') = some s → s = dst → t' = dst) :
    Good P n S0 w0 (upd g dst (.box true ds)) (tm.setIfInBounds dst (.pointer (some ⟨w.heap.size, 0, none⟩))) (w.alloc (.cells cells e)) := by
  refine ⟨_, _, _, h.setOwn (ob := some w.heap.size) ((h.extRefl).alloc h.below.size _) rfl ?_ (fun b hb => by cases hb; simp) hdst hal⟩
  simp only [OwnR]
  exact ⟨_, cells, e, rfl, rfl, heap_new w _, h.repsAlloc hr _, h1, fun j hj => absurd hj (h.noNew j), fun hf => by cases hf⟩

/-- a new slice of the call's own -/
theorem Inv.newOwn {ds : List D} {cells : Array Value} {e : TypeId} {m cap : Nat} (h : Inv P n S0 w0 S O g tm w) (hr : Reps S w ds (cells.toList.take (m * P.cellsOf e))) (h1 : ∀ d ∈ ds, d.one = true)
    (hl : ds.length = m * P.cellsOf e) (hsz : cells.size = cap * P.cellsOf e) (hm : m ≤ cap) (hc : cap ≤ maxLen) (hdst : n.Has dst)
    (hal : ∀ t' s, aliasOf (g t') = some s → s = dst → t' = dst) :
    Good P n S0 w0 (upd g dst (.own true e m ds)) (tm.setIfInBounds dst (.slice (some ⟨w.heap.size, 0, none⟩) m cap)) (w.alloc (.cells cells e)) := by
  refine ⟨_, _, _, h.setOwn (ob := some w.heap.size) ((h.extRefl).alloc h.below.size _) rfl ?_ (fun b hb => by cases hb; simp) hdst hal⟩
  simp only [OwnR]
  exact .inr ⟨_, cap, cells, rfl, rfl, heap_new w _, hm, hc, hsz, hl, h.repsAlloc hr _, h1, fun j hj => absurd hj (h.noNew j), fun hf => by cases hf⟩

theorem sound_alloc (z : List D) : Sound P (.alloc z) := by
  intro n S0 S w0 w O g tm o dst l hI hc hrd hdst hrun hal
  simp only [chkOp] at hc
  split at hc <;> try (cases hc; done)
  rename_i t hop
  simp only [K.run] at hrun
  cases hrun
  obtain ⟨i, v, hi, hv, hz, h3, h4, h5⟩ := zeroOk_spec hc
  obtain ⟨h6, h7⟩ := constsOk_reps (S := S) (w := w) hz
  exact ⟨.pointer (some ⟨w.heap.size, 0, none⟩), w.alloc (.cells v.cells t), by simp [execOp, hop, Instr.alloc, zeroValue, typeInfo, hi, hv, newVar, newRow], hI.newBox h6 h7 hdst (halD rfl hal)⟩

theorem cells_rep {d : D} {v : Value} (h : Rep S w d v) (h1 : d.cells.all D.one = true) : Reps S w d.cells v.cells.toList ∧ ∀ x ∈ d.cells, x.one = true := by
  refine h.cellsReps ?_
  cases d <;> first | (right; exact ⟨_, rfl⟩) | (left; simpa [D.cells] using h1)

theorem sound_bx (m : Nat) (x : PX) : Sound P (.bx m x) := by
  intro n S0 S w0 w O g tm o dst l hI hc hrd hdst hrun hal
  simp only [chkOp] at hc
  split at hc <;> try (cases hc; done)
  rename_i t a hop
  simp only [K.run] at hrun
  split at hrun <;> cases hrun
  rename_i hk
  obtain ⟨h1, h2, h3⟩ := hk
  obtain ⟨h4, h5⟩ := cells_rep (hI.opnd hc h3) h2
  exact ⟨.pointer (some ⟨w.heap.size, 0, none⟩), w.alloc (.cells (rho tm a).cells t), by simp [execOp, hop, Instr.box, newVar, newRow], hI.newBox h4 h5 hdst (halD rfl hal)⟩

theorem splice_get {α : Type} (cs : List α) (off : Nat) (new : List α) (h : off + new.length ≤ cs.length) (k : Nat) :
    (cs.take off ++ new ++ cs.drop (off + new.length))[k]? = if off ≤ k ∧ k < off + new.length then new[k - off]? else cs[k]? := by
  by_cases h1 : k < off
  · rw [if_neg (by omega), List.append_assoc, List.getElem?_append_left (by simp; omega), List.getElem?_take, if_pos h1]
  · by_cases h2 : k < off + new.length
    · rw [if_pos ⟨by omega, h2⟩, List.append_assoc, List.getElem?_append_right (by simp; omega), List.getElem?_append_left (by simp; omega)]
      congr 1; simp; omega
    · rw [if_neg (by omega), List.getElem?_append_right (by simp; omega), List.getElem?_drop]
      congr 1; simp; omega

theorem Reps.splice {cs new : List D} {vs us : List Value} {off : Nat} (h : Reps S w cs vs) (k : Reps S w new us) : Reps S w (Pi.splice cs off new) (vs.take off ++ us ++ vs.drop (off + us.length)) := by
  unfold Pi.splice
  rw [← k.1]
  exact ((h.take off).app k).app (h.drop _)

theorem fill_sim (place : Nat → Option (Nat × Nat)) (hI : Inv P n S0 w0 S O g tm w) : ∀ (parts : List (Nat × Operand)) (ps : List (Nat × Nat × PX)) (z cs : List D) (zs : Array Value), chkParts place parts ps = true →
    fillD z (ps.map fun (o, m, x) => (o, m, x.ev g)) = some cs → Reps S w z zs.toList → (∀ d ∈ z, d.one = true) →
    ∃ vs, Instr.fill place zs (parts.map fun p => (p.1, rho tm p.2)) = some vs ∧ Reps S w cs vs.toList ∧ ∀ d ∈ cs, d.one = true
  | [], [], z, cs, zs, _, hf, hr, h1 => by
    simp [fillD] at hf; subst hf
    exact ⟨zs, rfl, hr, h1⟩
  | [], _ :: _, _, _, _, h, _, _, _ => by simp [chkParts] at h
  | _ :: _, [], _, _, _, h, _, _, _ => by simp [chkParts] at h
  | (i, y) :: parts, (off, m, x) :: ps, z, cs, zs, hc, hf, hr, h1 => by
    simp only [chkParts, Bool.and_eq_true, beq_iff_eq] at hc
    obtain ⟨⟨hc1, hc2⟩, hc3⟩ := hc
    simp only [List.map_cons, fillD] at hf
    split at hf <;> try (cases hf; done)
    rename_i hk
    obtain ⟨k1, k2, k3, k4⟩ := hk
    obtain ⟨r1, r2⟩ := cells_rep (hI.opnd hc2 k4) k3
    have hsz : (rho tm y).cells.size = m := by rw [← k1]; simpa using r1.1.symm
    have hzl : z.length = zs.size := by simpa using hr.1
    obtain ⟨f1, f2⟩ := Go.Great.foldl_set off (rho tm y).cells.toList 0 zs
    have e : ((rho tm y).cells.zipIdx.foldl (fun cs (c, j) => cs.setIfInBounds (off + j) c) zs).toList = zs.toList.take off ++ (rho tm y).cells.toList ++ zs.toList.drop (off + (rho tm y).cells.toList.length) := by
      rw [← Array.foldl_toList, Array.toList_zipIdx]
      apply List.ext_getElem?
      intro k
      rw [splice_get _ _ _ (by simp; omega)]
      rw [Array.getElem?_toList]
      rw [f2 k]
      simp only [Nat.add_zero, Array.length_toList, Array.getElem?_toList]
      by_cases hin : off ≤ k ∧ k < off + (rho tm y).cells.size
      · rw [if_pos ⟨hin.1, hin.2, by omega⟩, if_pos hin]
      · rw [if_neg (fun z => hin ⟨z.1, z.2.1⟩), if_neg hin]
    have hs := Reps.splice (off := off) hr r1
    rw [← e] at hs
    obtain ⟨vs, v1, v2, v3⟩ := fill_sim place hI parts ps _ cs _ hc3 hf hs (fun d hd => by
      unfold Pi.splice at hd
      simp only [List.mem_append] at hd
      rcases hd with (hd | hd) | hd
      · exact h1 d (List.mem_of_mem_take hd)
      · exact r2 d hd
      · exact h1 d (List.mem_of_mem_drop hd))
    refine ⟨vs, ?_, v2, v3⟩
    simp only [List.map_cons, Instr.fill, hc1]
    rw [if_neg (by simp; omega)]
    exact v1

theorem run_struct_places (fs : Array Field) (h : fs.toList.all (fun f => (P.info? f.type).isSome) = true) :
    (fs.mapM fun f => Functor.map (Prod.mk f.offset) (sizeOf f.type)).run P w = .ok (fieldPlaces P fs) w := by
  have h1 : ∀ l : List Field, l.all (fun f => (P.info? f.type).isSome) = true → l.mapM (fun f => (P.info? f.type).map fun i => (f.offset, i.size)) = some (l.map fun f => (f.offset, P.cellsOf f.type)) := by
    intro l
    induction l with
    | nil => intro _; rfl
    | cons f l ih =>
      intro hl
      simp only [List.all_cons, Bool.and_eq_true] at hl
      obtain ⟨i, hi⟩ := Option.isSome_iff_exists.1 hl.1
      simp [List.mapM_cons, hi, ih hl.2, Program.cellsOf]
  rw [Array.mapM_eq_mapM_toList]
  simp only [Sem.run_map, run_places w _ _ (h1 fs.toList h), Result.andThen_ok, fieldPlaces]
  congr 1
  apply Array.ext'
  simp

theorem sound_bld (z : List D) (ps : List (Nat × Nat × PX)) : Sound P (.bld z ps) := by
  intro n S0 S w0 w O g tm o dst l hI hc hrd hdst hrun hal
  simp only [chkOp] at hc
  split at hc <;> try (cases hc; done)
  rename_i t parts hop
  simp only [Bool.and_eq_true] at hc
  obtain ⟨hz, hc⟩ := hc
  obtain ⟨i, v, hi, hv, hz, h3, h4, h5⟩ := zeroOk_spec hz
  obtain ⟨h6, h7⟩ := constsOk_reps (S := S) (w := w) hz
  simp only [K.run, Option.map_eq_some_iff] at hrun
  obtain ⟨cs, hcs, rfl⟩ := hrun
  split at hc <;> try (cases hc; done)
  · rename_i fs hu
    simp only [Bool.and_eq_true] at hc
    obtain ⟨hc1, hc2⟩ := hc
    obtain ⟨vs, v1, v2, v3⟩ := fill_sim _ hI parts.toList ps z cs v.cells hc1 hcs h6 h7
    refine hI.val hdst (by simpa [K.kills] using hal) (.agg cs vs.toList v2.1 v3 v2.2) ?_
    have e1 : (parts.map fun x => (x.1, rho tm x.2)).toList = parts.toList.map fun p => (p.1, rho tm p.2) := by simp
    have hp := run_struct_places (P := P) (w := w) fs hc2
    rw [← e1] at v1
    simp [execOp, hop, Instr.build, run_underlying hu, zeroValue, typeInfo, hi, hv, hp]
    simp at v1
    simp [v1]
  · rename_i m e hu
    simp only [Bool.and_eq_true] at hc
    obtain ⟨hc1, hc2⟩ := hc
    obtain ⟨vs, v1, v2, v3⟩ := fill_sim _ hI parts.toList ps z cs v.cells hc2 hcs h6 h7
    refine hI.val hdst (by simpa [K.kills] using hal) (.agg cs vs.toList v2.1 v3 v2.2) ?_
    simp [execOp, hop, Instr.build, run_underlying hu, zeroValue, typeInfo, hi, hv, run_sizeOf hc1]
    simp [v1]

theorem flatten_replicate_get {α : Type} (z : List α) (hz : 0 < z.length) : ∀ (m k : Nat), k < m * z.length → ((List.replicate m z).flatten)[k]? = z[k % z.length]?
  | 0, k, h => by simp at h
  | m + 1, k, h => by
    rw [List.replicate_succ, List.flatten_cons]
    by_cases hk : k < z.length
    · rw [List.getElem?_append_left hk, Nat.mod_eq_of_lt hk]
    · rw [List.getElem?_append_right (by omega), flatten_replicate_get z hz m (k - z.length) (by rw [Nat.add_mul] at h; omega)]
      rw [Nat.mod_eq_sub_mod (a := k) (by omega)]

theorem length_flatten_replicate {α : Type} (z : List α) (m : Nat) : ((List.replicate m z).flatten).length = m * z.length := by
  simp

theorem made_reps {z : List D} {zs : Array Value} (hr : Reps S w z zs.toList) (hz : 0 < z.length) (m c : Nat) (hmc : m ≤ c) :
    Reps S w (List.replicate m z).flatten ((madeCells zs (c * z.length)).toList.take (m * z.length)) := by
  have hzl : z.length = zs.size := by simpa using hr.1
  have hle : m * z.length ≤ c * z.length := Nat.mul_le_mul_right _ hmc
  have hsm : (madeCells zs (c * z.length)).toList.length = c * z.length := by simp [size_madeCells]
  refine ⟨by rw [length_flatten_replicate, List.length_take, hsm]; exact (Nat.min_eq_left hle).symm, fun i d v hd hv => ?_⟩
  have hi : i < m * z.length := by
    have := (List.getElem?_eq_some_iff.1 hd).1
    rwa [length_flatten_replicate] at this
  rw [flatten_replicate_get z hz m i hi] at hd
  rw [List.getElem?_take, if_pos hi, Array.getElem?_toList] at hv
  have hlt : i % z.length < zs.size := by rw [← hzl]; exact Nat.mod_lt _ hz
  have : (madeCells zs (c * z.length))[i]? = some zs[i % z.length] := by
    unfold madeCells
    rw [Array.getElem?_map, Array.getElem?_range, if_pos (by omega)]
    simp only [Option.map_some, ← hzl]
    rw [getElem!_pos zs _ hlt]
  rw [this] at hv
  cases hv
  exact hr.2 (i % z.length) d _ hd (by rw [Array.getElem?_toList]; exact Array.getElem?_eq_getElem hlt)

theorem ones_flatten {z : List D} (h : ∀ d ∈ z, d.one = true) (m : Nat) : ∀ d ∈ (List.replicate m z).flatten, d.one = true := by
  intro d hd
  rw [List.mem_flatten] at hd
  obtain ⟨l, hl, hd⟩ := hd
  rw [(List.mem_replicate.1 hl).2] at hd
  exact h d hd

theorem sound_mkS (e : Nat) (z : List D) (bytes : Nat) (lx cx : PX) : Sound P (.mkS e z bytes lx cx) := by
  intro n S0 S w0 w O g tm o dst l hI hc hrd hdst hrun hal
  simp only [chkOp] at hc
  split at hc <;> try (cases hc; done)
  rename_i t a b hop
  simp only [Bool.and_eq_true] at hc
  obtain ⟨⟨h1, h2⟩, h3⟩ := hc
  split at h3 <;> try (cases h3; done)
  rename_i e' hu
  simp only [Bool.and_eq_true, beq_iff_eq, decide_eq_true_eq] at h3
  obtain ⟨⟨⟨rfl, hz⟩, hpos⟩, hby⟩ := h3
  obtain ⟨i, v, hi, hv, hz, h3, h4, h5⟩ := zeroOk_spec hz
  obtain ⟨h6, h7⟩ := constsOk_reps (S := S) (w := w) hz
  simp only [K.run] at hrun
  split at hrun <;> try (cases hrun; done)
  rename_i la lb ha hb
  split at hrun <;> cases hrun
  rename_i hk
  obtain ⟨k1, k2, k3, k4⟩ := hk
  have hbi : i.bytes = bytes := by rw [← hby]; simp [Program.bytesOf, hi]
  have key := run_make (P := P) w t e i v hu hi hv .i64 .i64 la lb k1 k2 (by rw [hbi]; omega) (by simp [maxLen] at k4; omega)
  have hI2 := hI.newOwn (cells := madeCells v.cells (lb.toNat * z.length)) (e := e) (m := la.toNat) (cap := lb.toNat) (ds := (List.replicate la.toNat z).flatten) (dst := dst)
    (by rw [h4]; exact made_reps h6 hpos _ _ (by omega)) (ones_flatten h7 _) (by rw [h4, length_flatten_replicate]) (by rw [h4, size_madeCells]) (by omega) (by omega) hdst (halD rfl hal)
  rw [h3] at key
  exact ⟨_, _, by simp [execOp, hop, hI.intOf h1 ha, hI.intOf h2 hb, key], hI2⟩

theorem sound_bldS (e : Nat) (z : List D) (m : Nat) (ps : List (Nat × Nat × PX)) : Sound P (.bldS e z m ps) := by
  intro n S0 S w0 w O g tm o dst l hI hc hrd hdst hrun hal
  simp only [chkOp] at hc
  split at hc <;> try (cases hc; done)
  rename_i t m' parts hop
  simp only [Bool.and_eq_true, beq_iff_eq] at hc
  obtain ⟨rfl, hc⟩ := hc
  split at hc <;> try (cases hc; done)
  rename_i e' hu
  simp only [Bool.and_eq_true, beq_iff_eq, decide_eq_true_eq] at hc
  obtain ⟨⟨⟨⟨rfl, hz⟩, hpos⟩, hsm⟩, hps⟩ := hc
  obtain ⟨i, v, hi, hv, hz, h3, h4, h5⟩ := zeroOk_spec hz
  obtain ⟨h6, h7⟩ := constsOk_reps (S := S) (w := w) hz
  simp only [K.run] at hrun
  split at hrun <;> cases hrun
  rename_i cs hcs
  have hmr := made_reps h6 hpos m m (Nat.le_refl _)
  rw [List.take_of_length_le (by rw [Array.length_toList, size_madeCells]; exact Nat.le_refl _)] at hmr
  obtain ⟨vs, v1, v2, v3⟩ := fill_sim _ hI parts.toList ps _ cs (madeCells v.cells (m * z.length)) hps hcs hmr (ones_flatten h7 m)
  have hlen : ∀ (ps : List (Nat × Nat × D)) (z cs : List D), fillD z ps = some cs → cs.length = z.length := by
    intro ps
    induction ps with
    | nil => intro z cs h; simp [fillD] at h; rw [h]
    | cons p ps ih =>
      intro z cs h
      obtain ⟨o, m, d⟩ := p
      simp only [fillD] at h
      split at h <;> try (cases h; done)
      rename_i hk
      rw [ih _ _ h]
      unfold splice
      simp; omega
  have hcl : cs.length = m * z.length := by rw [hlen _ _ _ hcs, length_flatten_replicate]
  have hvl : vs.size = m * z.length := by rw [← hcl]; simpa using v2.1.symm
  have hmax : m ≤ maxLen := by
    have : m * 1 ≤ m * z.length := Nat.mul_le_mul_left _ hpos
    simp [maxLen]; omega
  have hI2 := hI.newOwn (cells := vs) (e := e) (m := m) (cap := m) (ds := cs) (dst := dst) (by rw [h4, List.take_of_length_le (by rw [Array.length_toList, hvl]; exact Nat.le_refl _)]; exact v2) v3
    (by rw [h4]; exact hcl) (by rw [h4]; exact hvl) (Nat.le_refl _) hmax hdst (halD rfl hal)
  have e1 : (parts.map fun x => (x.1, rho tm x.2)).toList = parts.toList.map fun p => (p.1, rho tm p.2) := by simp
  refine ⟨.slice (some ⟨w.heap.size, 0, none⟩) m m, _, ?_, hI2⟩
  by_cases hm : m = 0
  · subst hm
    have hmk : madeCells v.cells (0 * z.length) = #[] := by simp [madeCells]
    rw [hmk, ← e1] at v1
    simp only [Nat.zero_mul] at hmk
    have hexec : (Instr.buildSlice t 0 (parts.map fun x => (x.1, rho tm x.2))).run P w = .ok (.slice (some ⟨w.heap.size, 0, none⟩) 0 0) (w.alloc (.cells vs e)) := by
      simp only [Instr.buildSlice, Sem.run_bind, run_underlying hu, sizeOf, typeInfo, hi, h3, Result.andThen_ok, run_program, Sem.run_pure, Nat.zero_mul, Nat.not_lt_zero, if_false, if_true, Sem.run_ite]
      have hr0 : ∀ f : Nat → Value, (Array.range 0).map f = #[] := fun f => by simp
      simp at v1
      simp [hr0, v1, newRow]
    simp [execOp, hop, hexec]
  · have hexec := run_buildSlice (P := P) w t e m (parts.map fun x => (x.1, rho tm x.2)) vs i v hu hi hv (by rw [h3]; simpa using hsm) (by rw [h3]; have := Nat.mul_ne_zero hm (by omega : z.length ≠ 0); exact this)
      (by rw [e1, h3]; exact v1)
    simp [execOp, hop, hexec]

theorem sound_mkf (f : FuncId) (caps : List PX) : Sound P (.mkf f caps) := by
  intro n S0 S w0 w O g tm o dst l hI hc hrd hdst hrun hal
  simp only [chkOp] at hc
  split at hc <;> try (cases hc; done)
  rename_i f' first captured hop
  simp only [Bool.and_eq_true, beq_iff_eq] at hc
  obtain ⟨⟨rfl, h1⟩, h2⟩ := hc
  simp only [K.run, Option.map_eq_some_iff] at hrun
  obtain ⟨ds, hds, rfl⟩ := hrun
  obtain ⟨S', hI', hSS⟩ := hI.dullAll (caps.filterMap PX.slot)
  have key : ∀ (ys : List Operand) (xs : List PX) (ds : List D), chkXs ys xs = true → (∀ x ∈ xs, x ∈ caps) → optAll (xs.map (capt g)) = some ds → Reps S' w ds (ys.map (rho tm)) := by
    intro ys
    induction ys with
    | nil =>
      intro xs ds h1 h2 h3
      cases xs with
      | nil => simp [optAll] at h3; subst h3; exact .nil
      | cons x xs => simp [chkXs] at h1
    | cons y ys ih =>
      intro xs ds h1 h2 h3
      cases xs with
      | nil => simp [chkXs] at h1
      | cons x xs =>
        simp only [chkXs, Bool.and_eq_true] at h1
        cases ds with
        | nil => have := optAll_nil h3; simp at this
        | cons d ds =>
          obtain ⟨h4, h5⟩ := optAll_cons h3
          have hin := h2 x (List.mem_cons_self ..)
          refine .cons (hI'.captured h1.1 h4 (ev_dullAll _ x (fun d e => chkX_k (e ▸ h1.1)) (fun s e => List.mem_filterMap.2 ⟨x, hin, e⟩))) (ih xs ds h1.2 (fun z hz => h2 z (List.mem_cons_of_mem _ hz)) h5)
  have hreps := key captured.toList caps ds h2 (fun _ h => h) hds
  have hr : Rep S' w (.clo f ds) (.func (.func f) #[] (captured.toList.map (rho tm)).toArray) := .clo f ds _ hreps.1 hreps.2
  have h6 := hI'.setPure hI'.extRefl (fun _ _ z => z) (fun _ _ z => .inl z) hr hdst (fun t' s1 z1 z2 => by
    rw [alias_dullAll] at z1
    exact halD rfl hal t' s1 z1 z2)
  have hnd : dst ∉ caps.filterMap PX.slot := by
    intro hm
    obtain ⟨x, hx1, hx2⟩ := List.mem_filterMap.1 hm
    exact hrd (by simp only [K.reads, List.mem_flatMap]; exact ⟨x, hx1, PX.slot_reads hx2⟩)
  have eg := upds_dst_dulls (g := g) caps dst (.clo f ds) hnd
  rw [eg]
  have hf : first = #[] := by simpa using h1
  subst hf
  refine ⟨_, w, ?_, S', _, _, h6⟩
  simp only [execOp, hop, Instr.makeFunc]
  have : captured.map (rho tm) = (captured.toList.map (rho tm)).toArray := by apply Array.ext'; simp
  simp [this]

end Go.Pi
