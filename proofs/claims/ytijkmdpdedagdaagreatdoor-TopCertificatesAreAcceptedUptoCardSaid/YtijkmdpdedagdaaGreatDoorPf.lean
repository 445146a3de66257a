/-
  THE PROOFS, sixth part: new memory. Own work.
-/
import Derived.Test.YtijkmdpdedagdaaGreatDoorPe
import Derived.Great.FillDense
import Derived.Great.BuildSlice
set_option linter.unusedVariables false
set_option linter.unusedSimpArgs false
namespace Go.Pi
open Go Go.RowKit

variable {P : Program} {n : Nz} {S0 S : Nat → Nat → Prop} {w0 w : World} {O : Nat → Option Nat} {g : G} {tm : Array Value} {o : Oper} {dst : Nat}

theorem constsOk_reps : ∀ {vs : List Value} {z : List D}, constsOk vs z = true → Reps S w z vs ∧ ∀ d ∈ z, d.one = true
  | [], [], _ => ⟨.nil, fun d hd => by simp at hd⟩
  | [], _ :: _, h => by simp [constsOk] at h
  | _ :: _, [], h => by simp [constsOk] at h
  | v :: vs, d :: z, h => by
    simp only [constsOk, Bool.and_eq_true] at h
    obtain ⟨⟨h1, h2⟩, h3⟩ := h
    have ⟨h4, h5⟩ := constsOk_reps h3
    refine ⟨.cons (constOk_rep h1) h4, fun e he => ?_⟩
    rcases List.mem_cons.1 he with rfl | he
    · exact h2
    · exact h5 e he

theorem zeroOk_spec {t : TypeId} {z : List D} (h : zeroOk P t z = true) : ∃ i v, P.info? t = some i ∧ i.zero = some v ∧ constsOk v.cells.toList z = true ∧ i.size = z.length ∧ P.cellsOf t = z.length ∧ v.cells.size = z.length := by
  unfold zeroOk at h
  split at h <;> try (cases h; done)
  rename_i i hi
  split at h <;> try (cases h; done)
  rename_i v hv
  simp only [Bool.and_eq_true, beq_iff_eq] at h
  refine ⟨i, v, hi, hv, h.1, h.2, by simp [Program.cellsOf, hi, h.2], ?_⟩
  have := (constsOk_reps (S := fun _ _ => True) (w := default) h.1).1.1
  simpa using this.symm

theorem heap_new (w : World) (ob : Obj) : (w.alloc ob).heap[w.heap.size]? = some ob := by
  show (w.heap.push ob)[w.heap.size]? = _
  simp

theorem Inv.noNew (h : Inv P n S0 w0 S O g tm w) (j : Nat) : ¬ S w.heap.size j := fun x => by have := h.ex _ _ x; omega

theorem heap_cell_old (w : World) (ob : Obj) {b o : Nat} (h : b < w.heap.size) : (w.alloc ob).cell? ⟨b, o, none⟩ = w.cell? ⟨b, o, none⟩ :=
  cell_of_heap (Below.heap_alloc w ob b h)

theorem Inv.repsAlloc (h : Inv P n S0 w0 S O g tm w) {ds : List D} {vs : List Value} (hr : Reps S w ds vs) (ob : Obj) : Reps S (w.alloc ob) ds vs :=
  hr.mono (fun _ _ x => x) (fun b o x => heap_cell_old w ob (h.ex b o x))

/-- a new box -/
theorem Inv.newBox {ds : List D} {cells : Array Value} {e : TypeId} (h : Inv P n S0 w0 S O g tm w) (hr : Reps S w ds cells.toList) (h1 : ∀ d ∈ ds, d.one = true) (hdst : n.Has dst)
    (hal : ∀ t' s, aliasOf (g t') = some s → s = dst → t' = dst) :
    Good P n S0 w0 (upd g dst (.box true ds)) (tm.setIfInBounds dst (.pointer (some ⟨w.heap.size, 0, none⟩))) (w.alloc (.cells cells e)) := by
  refine ⟨_, _, _, h.setOwn (ob := some w.heap.size) ((h.extRefl).alloc h.below.size _) rfl ?_ (fun b hb => by cases hb; simp) hdst hal⟩
  simp only [OwnR]
  exact ⟨_, cells, e, rfl, rfl, heap_new w _, h.repsAlloc hr _, h1, fun j hj => absurd hj (h.noNew j), fun hf => by cases hf⟩

/-- a new slice of the call's own -/
theorem Inv.newOwn {ds : List D} {cells : Array Value} {e : TypeId} {m cap : Nat} (h : Inv P n S0 w0 S O g tm w) (hr : Reps S w ds (cells.toList.take (m * P.cellsOf e))) (h1 : ∀ d ∈ ds, d.one = true)
    (hl : ds.length = m * P.cellsOf e) (hsz : cells.size = cap * P.cellsOf e) (hm : m ≤ cap) (hc : cap ≤ maxLen) (hdst : n.Has dst)
    (hal : ∀ t' s, aliasOf (g t') = some s → s = dst → t' = dst) :
    Good P n S0 w0 (upd g dst (.own true e m ds)) (tm.setIfInBounds dst (.slice (some ⟨w.heap.size, 0, none⟩) m cap)) (w.alloc (.cells cells e)) := by
  refine ⟨_, _, _, h.setOwn (ob := some w.heap.size) ((h.extRefl).alloc h.below.size _) rfl ?_ (fun b hb => by cases hb; simp) hdst hal⟩
  simp only [OwnR]
  exact .inr ⟨_, cap, cells, rfl, rfl, heap_new w _, hm, hc, hsz, hl, h.repsAlloc hr _, h1, fun j hj => absurd hj (h.noNew j), fun hf => by cases hf⟩

theorem sound_alloc (z : List D) : Sound P (.alloc z) := by
  intro n S0 S w0 w O g tm o dst l hI hc hrd hdst hrun hal
  simp only [chkOp] at hc
  split at hc <;> try (cases hc; done)
  rename_i t hop
  simp only [K.run] at hrun
  cases hrun
  obtain ⟨i, v, hi, hv, hz, h3, h4, h5⟩ := zeroOk_spec hc
  obtain ⟨h6, h7⟩ := constsOk_reps (S := S) (w := w) hz
  exact ⟨.pointer (some ⟨w.heap.size, 0, none⟩), w.alloc (.cells v.cells t), by simp [execOp, hop, Instr.alloc, zeroValue, typeInfo, hi, hv, newVar, newRow], hI.newBox h6 h7 hdst (halD rfl hal)⟩

theorem cells_rep {d : D} {v : Value} (h : Rep S w d v) (h1 : d.cells.all D.one = true) : Reps S w d.cells v.cells.toList ∧ ∀ x ∈ d.cells, x.one = true := by
  refine h.cellsReps ?_
  cases d <;> first | (right; exact ⟨_, rfl⟩) | (left; simpa [D.cells] using h1)

theorem sound_bx (m : Nat) (x : PX) : Sound P (.bx m x) := by
  intro n S0 S w0 w O g tm o dst l hI hc hrd hdst hrun hal
  simp only [chkOp] at hc
  split at hc <;> try (cases hc; done)
  rename_i t a hop
  simp only [K.run] at hrun
  split at hrun <;> cases hrun
  rename_i hk
  obtain ⟨h1, h2, h3⟩ := hk
  obtain ⟨h4, h5⟩ := cells_rep (hI.opnd hc h3) h2
  exact ⟨.pointer (some ⟨w.heap.size, 0, none⟩), w.alloc (.cells (rho tm a).cells t), by simp [execOp, hop, Instr.box, newVar, newRow], hI.newBox h4 h5 hdst (halD rfl hal)⟩

theorem splice_get {α : Type} (cs : List α) (off : Nat) (new : List α) (h : off + new.length ≤ cs.length) (k : Nat) :
    (cs.take off ++ new ++ cs.drop (off + new.length))[k]? = if off ≤ k ∧ k < off + new.length then new[k - off]? else cs[k]? := by
  by_cases h1 : k < off
  · rw [if_neg (by omega), List.append_assoc, List.getElem?_append_left (by simp; omega), List.getElem?_take, if_pos h1]
  · by_cases h2 : k < off + new.length
    · rw [if_pos ⟨by omega, h2⟩, List.append_assoc, List.getElem?_append_right (by simp; omega), List.getElem?_append_left (by simp; omega)]
      congr 1; simp; omega
    · rw [if_neg (by omega), List.getElem?_append_right (by simp; omega), List.getElem?_drop]
      congr 1; simp; omega

theorem Reps.splice {cs new : List D} {vs us : List Value} {off : Nat} (h : Reps S w cs vs) (k : Reps S w new us) : Reps S w (Pi.splice cs off new) (vs.take off ++ us ++ vs.drop (off + us.length)) := by
  unfold Pi.splice
  rw [← k.1]
  exact ((h.take off).app k).app (h.drop _)

theorem fill_sim (place : Nat → Option (Nat × Nat)) (hI : Inv P n S0 w0 S O g tm w) : ∀ (parts : List (Nat × Operand)) (ps : List (Nat × Nat × PX)) (z cs : List D) (zs : Array Value), chkParts place parts ps = true →
    fillD z (ps.map fun (o, m, x) => (o, m, x.ev g)) = some cs → Reps S w z zs.toList → (∀ d ∈ z, d.one = true) →
    ∃ vs, Instr.fill place zs (parts.map fun p => (p.1, rho tm p.2)) = some vs ∧ Reps S w cs vs.toList ∧ ∀ d ∈ cs, d.one = true
  | [], [], z, cs, zs, _, hf, hr, h1 => by
    simp [fillD] at hf; subst hf
    exact ⟨zs, rfl, hr, h1⟩
  | [], _ :: _, _, _, _, h, _, _, _ => by simp [chkParts] at h
  | _ :: _, [], _, _, _, h, _, _, _ => by simp [chkParts] at h
  | (i, y) :: parts, (off, m, x) :: ps, z, cs, zs, hc, hf, hr, h1 => by
    simp only [chkParts, Bool.and_eq_true, beq_iff_eq] at hc
    obtain ⟨⟨hc1, hc2⟩, hc3⟩ := hc
    simp only [List.map_cons, fillD] at hf
    split at hf <;> try (cases hf; done)
    rename_i hk
    obtain ⟨k1, k2, k3, k4⟩ := hk
    obtain ⟨r1, r2⟩ := cells_rep (hI.opnd hc2 k4) k3
    have hsz : (rho tm y).cells.size = m := by rw [← k1]; simpa using r1.1.symm
    have hzl : z.length = zs.size := by simpa using hr.1
    obtain ⟨f1, f2⟩ := Go.Great.foldl_set off (rho tm y).cells.toList 0 zs
    have e : ((rho tm y).cells.zipIdx.foldl (fun cs (c, j) => cs.setIfInBounds (off + j) c) zs).toList = zs.toList.take off ++ (rho tm y).cells.toList ++ zs.toList.drop (off + (rho tm y).cells.toList.length) := by
      rw [← Array.foldl_toList, Array.toList_zipIdx]
      apply List.ext_getElem?
      intro k
      rw [splice_get _ _ _ (by simp; omega)]
      rw [Array.getElem?_toList]
      rw [f2 k]
      simp only [Nat.add_zero, Array.length_toList, Array.getElem?_toList]
      by_cases hin : off ≤ k ∧ k < off + (rho tm y).cells.size
      · rw [if_pos ⟨hin.1, hin.2, by omega⟩, if_pos hin]
      · rw [if_neg (fun z => hin ⟨z.1, z.2.1⟩), if_neg hin]
    have hs := Reps.splice (off := off) hr r1
    rw [← e] at hs
    obtain ⟨vs, v1, v2, v3⟩ := fill_sim place hI parts ps _ cs _ hc3 hf hs (fun d hd => by
      unfold Pi.splice at hd
      simp only [List.mem_append] at hd
      rcases hd with (hd | hd) | hd
      · exact h1 d (List.mem_of_mem_take hd)
      · exact r2 d hd
      · exact h1 d (List.mem_of_mem_drop hd))
    refine ⟨vs, ?_, v2, v3⟩
    simp only [List.map_cons, Instr.fill, hc1]
    rw [if_neg (by simp; omega)]
    exact v1

theorem run_struct_places (fs : Array Field) (h : fs.toList.all (fun f => (P.info? f.type).isSome) = true) :
    (fs.mapM fun f => Functor.map (Prod.mk f.offset) (sizeOf f.type)).run P w = .ok (fieldPlaces P fs) w := by
  have h1 : ∀ l : List Field, l.all (fun f => (P.info? f.type).isSome) = true → l.mapM (fun f => (P.info? f.type).map fun i => (f.offset, i.size)) = some (l.map fun f => (f.offset, P.cellsOf f.type)) := by
    intro l
    induction l with
    | nil => intro _; rfl
    | cons f l ih =>
      intro hl
      simp only [List.all_cons, Bool.and_eq_true] at hl
      obtain ⟨i, hi⟩ := Option.isSome_iff_exists.1 hl.1
      simp [List.mapM_cons, hi, ih hl.2, Program.cellsOf]
  rw [Array.mapM_eq_mapM_toList]
  simp only [Sem.run_map, run_places w _ _ (h1 fs.toList h), Result.andThen_ok, fieldPlaces]
  congr 1
  apply Array.ext'
  simp

theorem sound_bld (z : List D) (ps : List (Nat × Nat × PX)) : Sound P (.bld z ps) := by
  intro n S0 S w0 w O g tm o dst l hI hc hrd hdst hrun hal
  simp only [chkOp] at hc
  split at hc <;> try (cases hc; done)
  rename_i t parts hop
  simp only [Bool.and_eq_true] at hc
  obtain ⟨hz, hc⟩ := hc
  obtain ⟨i, v, hi, hv, hz, h3, h4, h5⟩ := zeroOk_spec hz
  obtain ⟨h6, h7⟩ := constsOk_reps (S := S) (w := w) hz
  simp only [K.run, Option.map_eq_some_iff] at hrun
  obtain ⟨cs, hcs, rfl⟩ := hrun
  split at hc <;> try (cases hc; done)
  · rename_i fs hu
    simp only [Bool.and_eq_true] at hc
    obtain ⟨hc1, hc2⟩ := hc
    obtain ⟨vs, v1, v2, v3⟩ := fill_sim _ hI parts.toList ps z cs v.cells hc1 hcs h6 h7
    refine hI.val hdst (by simpa [K.kills] using hal) (.agg cs vs.toList v2.1 v3 v2.2) ?_
    have e1 : (parts.map fun x => (x.1, rho tm x.2)).toList = parts.toList.map fun p => (p.1, rho tm p.2) := by simp
    have hp := run_struct_places (P := P) (w := w) fs hc2
    rw [← e1] at v1
    simp [execOp, hop, Instr.build, run_underlying hu, zeroValue, typeInfo, hi, hv, hp]
    simp at v1
    simp [v1]
  · rename_i m e hu
    simp only [Bool.and_eq_true] at hc
    obtain ⟨hc1, hc2⟩ := hc
    obtain ⟨vs, v1, v2, v3⟩ := fill_sim _ hI parts.toList ps z cs v.cells hc2 hcs h6 h7
    refine hI.val hdst (by simpa [K.kills] using hal) (.agg cs vs.toList v2.1 v3 v2.2) ?_
    simp [execOp, hop, Instr.build, run_underlying hu, zeroValue, typeInfo, hi, hv, run_sizeOf hc1]
    simp [v1]

theorem flatten_replicate_get {α : Type} (z : List α) (hz : 0 < z.length) : ∀ (m k : Nat), k < m * z.length → ((List.replicate m z).flatten)[k]? = z[k % z.length]?
  | 0, k, h => by simp at h
  | m + 1, k, h => by
    rw [List.replicate_succ, List.flatten_cons]
    by_cases hk : k < z.length
    · rw [List.getElem?_append_left hk, Nat.mod_eq_of_lt hk]
    · rw [List.getElem?_append_right (by omega), flatten_replicate_get z hz m (k - z.length) (by rw [Nat.add_mul] at h; omega)]
      rw [Nat.mod_eq_sub_mod (a := k) (by omega)]

theorem length_flatten_replicate {α : Type} (z : List α) (m : Nat) : ((List.replicate m z).flatten).length = m * z.length := by
  simp

theorem made_reps {z : List D} {zs : Array Value} (hr : Reps S w z zs.toList) (hz : 0 < z.length) (m c : Nat) (hmc : m ≤ c) :
    Reps S w (List.replicate m z).flatten ((madeCells zs (c * z.length)).toList.take (m * z.length)) := by
  have hzl : z.length = zs.size := by simpa using hr.1
  have hle : m * z.length ≤ c * z.length := Nat.mul_le_mul_right _ hmc
  have hsm : (madeCells zs (c * z.length)).toList.length = c * z.length := by simp [size_madeCells]
  refine ⟨by rw [length_flatten_replicate, List.length_take, hsm]; exact (Nat.min_eq_left hle).symm, fun i d v hd hv => ?_⟩
  have hi : i < m * z.length := by
    have := (List.getElem?_eq_some_iff.1 hd).1
    rwa [length_flatten_replicate] at this
  rw [flatten_replicate_get z hz m i hi] at hd
  rw [List.getElem?_take, if_pos hi, Array.getElem?_toList] at hv
  have hlt : i % z.length < zs.size := by rw [← hzl]; exact Nat.mod_lt _ hz
  have : (madeCells zs (c * z.length))[i]? = some zs[i % z.length] := by
    unfold madeCells
    rw [Array.getElem?_map, Array.getElem?_range, if_pos (by omega)]
    simp only [Option.map_some, ← hzl]
    rw [getElem!_pos zs _ hlt]
  rw [this] at hv
  cases hv
  exact hr.2 (i % z.length) d _ hd (by rw [Array.getElem?_toList]; exact Array.getElem?_eq_getElem hlt)

theorem ones_flatten {z : List D} (h : ∀ d ∈ z, d.one = true) (m : Nat) : ∀ d ∈ (List.replicate m z).flatten, d.one = true := by
  intro d hd
  rw [List.mem_flatten] at hd
  obtain ⟨l, hl, hd⟩ := hd
  rw [(List.mem_replicate.1 hl).2] at hd
  exact h d hd

theorem sound_mkS (e : Nat) (z : List D) (bytes : Nat) (lx cx : PX) : Sound P (.mkS e z bytes lx cx) := by
  intro n S0 S w0 w O g tm o dst l hI hc hrd hdst hrun hal
  simp only [chkOp] at hc
  split at hc <;> try (cases hc; done)
  rename_i t a b hop
  simp only [Bool.and_eq_true] at hc
  obtain ⟨⟨h1, h2⟩, h3⟩ := hc
  split at h3 <;> try (cases h3; done)
  rename_i e' hu
  simp only [Bool.and_eq_true, beq_iff_eq, decide_eq_true_eq] at h3
  obtain ⟨⟨⟨rfl, hz⟩, hpos⟩, hby⟩ := h3
  obtain ⟨i, v, hi, hv, hz, h3, h4, h5⟩ := zeroOk_spec hz
  obtain ⟨h6, h7⟩ := constsOk_reps (S := S) (w := w) hz
  simp only [K.run] at hrun
  split at hrun <;> try (cases hrun; done)
  rename_i la lb ha hb
  split at hrun <;> cases hrun
  rename_i hk
  obtain ⟨k1, k2, k3, k4⟩ := hk
  have hbi : i.bytes = bytes := by rw [← hby]; simp [Program.bytesOf, hi]
  have key := run_make (P := P) w t e i v hu hi hv .i64 .i64 la lb k1 k2 (by rw [hbi]; omega) (by simp [maxLen] at k4; omega)
  have hI2 := hI.newOwn (cells := madeCells v.cells (lb.toNat * z.length)) (e := e) (m := la.toNat) (cap := lb.toNat) (ds := (List.replicate la.toNat z).flatten) (dst := dst)
    (by rw [h4]; exact made_reps h6 hpos _ _ (by omega)) (ones_flatten h7 _) (by rw [h4, length_flatten_replicate]) (by rw [h4, size_madeCells]) (by omega) (by omega) hdst (halD rfl hal)
  rw [h3] at key
  exact ⟨_, _, by simp [execOp, hop, hI.intOf h1 ha, hI.intOf h2 hb, key], hI2⟩

theorem sound_bldS (e : Nat) (z : List D) (m : Nat) (ps : List (Nat × Nat × PX)) : Sound P (.bldS e z m ps) := by
  intro n S0 S w0 w O g tm o dst l hI hc hrd hdst hrun hal
  simp only [chkOp] at hc
  split at hc <;> try (cases hc; done)
  rename_i t m' parts hop
  simp only [Bool.and_eq_true, beq_iff_eq] at hc
  obtain ⟨rfl, hc⟩ := hc
  split at hc <;> try (cases hc; done)
  rename_i e' hu
  simp only [Bool.and_eq_true, beq_iff_eq, decide_eq_true_eq] at hc
  obtain ⟨⟨⟨⟨rfl, hz⟩, hpos⟩, hsm⟩, hps⟩ := hc
  obtain ⟨i, v, hi, hv, hz, h3, h4, h5⟩ := zeroOk_spec hz
  obtain ⟨h6, h7⟩ := constsOk_reps (S := S) (w := w) hz
  simp only [K.run] at hrun
  split at hrun <;> cases hrun
  rename_i cs hcs
  have hmr := made_reps h6 hpos m m (Nat.le_refl _)
  rw [List.take_of_length_le (by rw [Array.length_toList, size_madeCells]; exact Nat.le_refl _)] at hmr
  obtain ⟨vs, v1, v2, v3⟩ := fill_sim _ hI parts.toList ps _ cs (madeCells v.cells (m * z.length)) hps hcs hmr (ones_flatten h7 m)
  have hlen : ∀ (ps : List (Nat × Nat × D)) (z cs : List D), fillD z ps = some cs → cs.length = z.length := by
    intro ps
    induction ps with
    | nil => intro z cs h; simp [fillD] at h; rw [h]
    | cons p ps ih =>
      intro z cs h
      obtain ⟨o, m, d⟩ := p
      simp only [fillD] at h
      split at h <;> try (cases h; done)
      rename_i hk
      rw [ih _ _ h]
      unfold splice
      simp; omega
  have hcl : cs.length = m * z.length := by rw [hlen _ _ _ hcs, length_flatten_replicate]
  have hvl : vs.size = m * z.length := by rw [← hcl]; simpa using v2.1.symm
  have hmax : m ≤ maxLen := by
    have : m * 1 ≤ m * z.length := Nat.mul_le_mul_left _ hpos
    simp [maxLen]; omega
  have hI2 := hI.newOwn (cells := vs) (e := e) (m := m) (cap := m) (ds := cs) (dst := dst) (by rw [h4, List.take_of_length_le (by rw [Array.length_toList, hvl]; exact Nat.le_refl _)]; exact v2) v3
    (by rw [h4]; exact hcl) (by rw [h4]; exact hvl) (Nat.le_refl _) hmax hdst (halD rfl hal)
  have e1 : (parts.map fun x => (x.1, rho tm x.2)).toList = parts.toList.map fun p => (p.1, rho tm p.2) := by simp
  refine ⟨.slice (some ⟨w.heap.size, 0, none⟩) m m, _, ?_, hI2⟩
  by_cases hm : m = 0
  · subst hm
    have hmk : madeCells v.cells (0 * z.length) = #[] := by simp [madeCells]
    rw [hmk, ← e1] at v1
    simp only [Nat.zero_mul] at hmk
    have hexec : (Instr.buildSlice t 0 (parts.map fun x => (x.1, rho tm x.2))).run P w = .ok (.slice (some ⟨w.heap.size, 0, none⟩) 0 0) (w.alloc (.cells vs e)) := by
      simp only [Instr.buildSlice, Sem.run_bind, run_underlying hu, sizeOf, typeInfo, hi, h3, Result.andThen_ok, run_program, Sem.run_pure, Nat.zero_mul, Nat.not_lt_zero, if_false, if_true, Sem.run_ite]
      have hr0 : ∀ f : Nat → Value, (Array.range 0).map f = #[] := fun f => by simp
      simp at v1
      simp [hr0, v1, newRow]
    simp [execOp, hop, hexec]
  · have hexec := run_buildSlice (P := P) w t e m (parts.map fun x => (x.1, rho tm x.2)) vs i v hu hi hv (by rw [h3]; simpa using hsm) (by rw [h3]; have := Nat.mul_ne_zero hm (by omega : z.length ≠ 0); exact this)
      (by rw [e1, h3]; exact v1)
    simp [execOp, hop, hexec]

theorem sound_mkf (f : FuncId) (caps : List PX) : Sound P (.mkf f caps) := by
  intro n S0 S w0 w O g tm o dst l hI hc hrd hdst hrun hal
  simp only [chkOp] at hc
  split at hc <;> try (cases hc; done)
  rename_i f' first captured hop
  simp only [Bool.and_eq_true, beq_iff_eq] at hc
  obtain ⟨⟨rfl, h1⟩, h2⟩ := hc
  simp only [K.run, Option.map_eq_some_iff] at hrun
  obtain ⟨ds, hds, rfl⟩ := hrun
  obtain ⟨S', hI', hSS⟩ := hI.dullAll (caps.filterMap PX.slot)
  have key : ∀ (ys : List Operand) (xs : List PX) (ds : List D), chkXs ys xs = true → (∀ x ∈ xs, x ∈ caps) → optAll (xs.map (capt g)) = some ds → Reps S' w ds (ys.map (rho tm)) := by
    intro ys
    induction ys with
    | nil =>
      intro xs ds h1 h2 h3
      cases xs with
      | nil => simp [optAll] at h3; subst h3; exact .nil
      | cons x xs => simp [chkXs] at h1
    | cons y ys ih =>
      intro xs ds h1 h2 h3
      cases xs with
      | nil => simp [chkXs] at h1
      | cons x xs =>
        simp only [chkXs, Bool.and_eq_true] at h1
        cases ds with
        | nil => have := optAll_nil h3; simp at this
        | cons d ds =>
          obtain ⟨h4, h5⟩ := optAll_cons h3
          have hin := h2 x (List.mem_cons_self ..)
          refine .cons (hI'.captured h1.1 h4 (ev_dullAll _ x (fun d e => chkX_k (e ▸ h1.1)) (fun s e => List.mem_filterMap.2 ⟨x, hin, e⟩))) (ih xs ds h1.2 (fun z hz => h2 z (List.mem_cons_of_mem _ hz)) h5)
  have hreps := key captured.toList caps ds h2 (fun _ h => h) hds
  have hr : Rep S' w (.clo f ds) (.func (.func f) #[] (captured.toList.map (rho tm)).toArray) := .clo f ds _ hreps.1 hreps.2
  have h6 := hI'.setPure hI'.extRefl (fun _ _ z => z) (fun _ _ z => .inl z) hr hdst (fun t' s1 z1 z2 => by
    rw [alias_dullAll] at z1
    exact halD rfl hal t' s1 z1 z2)
  have hnd : dst ∉ caps.filterMap PX.slot := by
    intro hm
    obtain ⟨x, hx1, hx2⟩ := List.mem_filterMap.1 hm
    exact hrd (by simp only [K.reads, List.mem_flatMap]; exact ⟨x, hx1, PX.slot_reads hx2⟩)
  have eg := upds_dst_dulls (g := g) caps dst (.clo f ds) hnd
  rw [eg]
  have hf : first = #[] := by simpa using h1
  subst hf
  refine ⟨_, w, ?_, S', _, _, h6⟩
  simp only [execOp, hop, Instr.makeFunc]
  have : captured.map (rho tm) = (captured.toList.map (rho tm)).toArray := by apply Array.ext'; simp
  simp [this]

/-! literals whose parts are lent: own slices that become parts -/
theorem fill_lent (place : Nat → Option (Nat × Nat)) (all : List PX) (H : ∀ (y : Operand) (x : PX), chkX y x = true → x ∈ all → (x.ev g).plain.isPure = true → Rep S w (x.ev g).plain (rho tm y)) : ∀ (parts : List (Nat × Operand)) (ps : List (Nat × Nat × PX)) (z cs : List D) (zs : Array Value), chkParts place parts ps = true → (∀ p ∈ ps, p.2.2 ∈ all) →
    fillD z (ps.map fun (o, m, x) => (o, m, (x.ev g).plain)) = some cs → Reps S w z zs.toList → (∀ d ∈ z, d.one = true) →
    ∃ vs, Instr.fill place zs (parts.map fun p => (p.1, rho tm p.2)) = some vs ∧ Reps S w cs vs.toList ∧ ∀ d ∈ cs, d.one = true
  | [], [], z, cs, zs, _, _, hf, hr, h1 => by
    simp [fillD] at hf; subst hf
    exact ⟨zs, rfl, hr, h1⟩
  | [], _ :: _, _, _, _, h, _, _, _, _ => by simp [chkParts] at h
  | _ :: _, [], _, _, _, h, _, _, _, _ => by simp [chkParts] at h
  | (i, y) :: parts, (off, m, x) :: ps, z, cs, zs, hc, ha, hf, hr, h1 => by
    simp only [chkParts, Bool.and_eq_true, beq_iff_eq] at hc
    obtain ⟨⟨hc1, hc2⟩, hc3⟩ := hc
    simp only [List.map_cons, fillD] at hf
    split at hf <;> try (cases hf; done)
    rename_i hk
    obtain ⟨k1, k2, k3, k4⟩ := hk
    obtain ⟨r1, r2⟩ := cells_rep (H y x hc2 (ha _ (List.mem_cons_self ..)) k4) k3
    have hsz : (rho tm y).cells.size = m := by rw [← k1]; simpa using r1.1.symm
    have hzl : z.length = zs.size := by simpa using hr.1
    obtain ⟨f1, f2⟩ := Go.Great.foldl_set off (rho tm y).cells.toList 0 zs
    have e : ((rho tm y).cells.zipIdx.foldl (fun cs (c, j) => cs.setIfInBounds (off + j) c) zs).toList = zs.toList.take off ++ (rho tm y).cells.toList ++ zs.toList.drop (off + (rho tm y).cells.toList.length) := by
      rw [← Array.foldl_toList, Array.toList_zipIdx]
      apply List.ext_getElem?
      intro k
      rw [splice_get _ _ _ (by simp; omega)]
      rw [Array.getElem?_toList]
      rw [f2 k]
      simp only [Nat.add_zero, Array.length_toList, Array.getElem?_toList]
      by_cases hin : off ≤ k ∧ k < off + (rho tm y).cells.size
      · rw [if_pos ⟨hin.1, hin.2, by omega⟩, if_pos hin]
      · rw [if_neg (fun z => hin ⟨z.1, z.2.1⟩), if_neg hin]
    have hs := Reps.splice (off := off) hr r1
    rw [← e] at hs
    obtain ⟨vs, v1, v2, v3⟩ := fill_lent place all H parts ps _ cs _ hc3 (fun p hp => ha p (List.mem_cons_of_mem _ hp)) hf hs (fun d hd => by
      unfold Pi.splice at hd
      simp only [List.mem_append] at hd
      rcases hd with (hd | hd) | hd
      · exact h1 d (List.mem_of_mem_take hd)
      · exact r2 d hd
      · exact h1 d (List.mem_of_mem_drop hd))
    refine ⟨vs, ?_, v2, v3⟩
    simp only [List.map_cons, Instr.fill, hc1]
    rw [if_neg (by simp; omega)]
    exact v1

/-- the parts of a literal, in the frame where their memory is settled -/
theorem Inv.lentParts {S' : Nat → Nat → Prop} (all : List PX) (hI' : Inv P n S0 w0 S' O (Pi.dullAll g (all.filterMap PX.slot)) tm w) (y : Operand) (x : PX) (hx : chkX y x = true) (hin : x ∈ all) (hp : (x.ev g).plain.isPure = true) : Rep S' w (x.ev g).plain (rho tm y) :=
  hI'.lent hx (by simp [lend, hp]) (ev_dullAll _ x (fun d e => chkX_k (e ▸ hx)) (fun s e => List.mem_filterMap.2 ⟨x, hin, e⟩))

theorem slot_parts {ps : List (Nat × Nat × PX)} (hrd : dst ∉ ps.flatMap fun p => p.2.2.reads) : dst ∉ (ps.map fun p => p.2.2).filterMap PX.slot := by
  intro hm
  obtain ⟨x, hx1, hx2⟩ := List.mem_filterMap.1 hm
  obtain ⟨p, hp, rfl⟩ := List.mem_map.1 hx1
  exact hrd (List.mem_flatMap.2 ⟨p, hp, PX.slot_reads hx2⟩)

theorem sound_bldA (z : List D) (ps : List (Nat × Nat × PX)) : Sound P (.bldA z ps) := by
  intro n S0 S w0 w O g tm o dst l hI hc hrd hdst hrun hal
  simp only [chkOp] at hc
  split at hc <;> try (cases hc; done)
  rename_i t parts hop
  simp only [Bool.and_eq_true] at hc
  obtain ⟨hz, hc⟩ := hc
  obtain ⟨i, v, hi, hv, hz, h3, h4, h5⟩ := zeroOk_spec hz
  simp only [K.run, Option.map_eq_some_iff] at hrun
  obtain ⟨cs, hcs, rfl⟩ := hrun
  obtain ⟨S', hI', hSS⟩ := hI.dullAll ((ps.map fun p => p.2.2).filterMap PX.slot)
  obtain ⟨h6, h7⟩ := constsOk_reps (S := S') (w := w) hz
  have hH := Inv.lentParts (ps.map fun p => p.2.2) hI'
  have hin : ∀ p ∈ ps, p.2.2 ∈ ps.map fun p => p.2.2 := fun p hp => List.mem_map.2 ⟨p, hp, rfl⟩
  have eg := upds_dst_dulls (g := g) (ps.map fun p => p.2.2) dst (.agg cs) (slot_parts hrd)
  rw [eg]
  have fin : ∀ vs : Array Value, Reps S' w cs vs.toList → (∀ d ∈ cs, d.one = true) → (execOp (rho tm) o).run P w = .ok (.value (.agg vs)) w → ∃ v w', (execOp (rho tm) o).run P w = .ok (.value v) w' ∧ Good P n S0 w0 (upd (Pi.dullAll g ((ps.map fun p => p.2.2).filterMap PX.slot)) dst (.agg cs)) (tm.setIfInBounds dst v) w' := fun vs v2 v3 hex => by
    have h6 := hI'.setPure hI'.extRefl (fun _ _ z => z) (fun _ _ z => .inl z) (Rep.agg cs vs.toList v2.1 v3 v2.2) hdst (fun t' s1 z1 z2 => by
      rw [alias_dullAll] at z1
      exact halD rfl hal t' s1 z1 z2)
    exact ⟨_, w, hex, S', _, _, h6⟩
  split at hc <;> try (cases hc; done)
  · rename_i fs hu
    simp only [Bool.and_eq_true] at hc
    obtain ⟨hc1, hc2⟩ := hc
    obtain ⟨vs, v1, v2, v3⟩ := fill_lent _ _ hH parts.toList ps z cs v.cells hc1 hin hcs h6 h7
    refine fin vs v2 v3 ?_
    have e1 : (parts.map fun x => (x.1, rho tm x.2)).toList = parts.toList.map fun p => (p.1, rho tm p.2) := by simp
    have hp := run_struct_places (P := P) (w := w) fs hc2
    rw [← e1] at v1
    simp [execOp, hop, Instr.build, run_underlying hu, zeroValue, typeInfo, hi, hv, hp]
    simp at v1
    simp [v1]
  · rename_i m e hu
    simp only [Bool.and_eq_true] at hc
    obtain ⟨hc1, hc2⟩ := hc
    obtain ⟨vs, v1, v2, v3⟩ := fill_lent _ _ hH parts.toList ps z cs v.cells hc2 hin hcs h6 h7
    refine fin vs v2 v3 ?_
    simp [execOp, hop, Instr.build, run_underlying hu, zeroValue, typeInfo, hi, hv, run_sizeOf hc1]
    simp [v1]

theorem sound_bldL (e : Nat) (z : List D) (m : Nat) (ps : List (Nat × Nat × PX)) : Sound P (.bldL e z m ps) := by
  intro n S0 S w0 w O g tm o dst l hI hc hrd hdst hrun hal
  simp only [chkOp] at hc
  split at hc <;> try (cases hc; done)
  rename_i t m' parts hop
  simp only [Bool.and_eq_true, beq_iff_eq] at hc
  obtain ⟨rfl, hc⟩ := hc
  split at hc <;> try (cases hc; done)
  rename_i e' hu
  simp only [Bool.and_eq_true, beq_iff_eq, decide_eq_true_eq] at hc
  obtain ⟨⟨⟨⟨rfl, hz⟩, hpos⟩, hsm⟩, hps⟩ := hc
  obtain ⟨i, v, hi, hv, hz, h3, h4, h5⟩ := zeroOk_spec hz
  simp only [K.run, Option.map_eq_some_iff] at hrun
  obtain ⟨cs, hcs, rfl⟩ := hrun
  obtain ⟨S', hI', hSS⟩ := hI.dullAll ((ps.map fun p => p.2.2).filterMap PX.slot)
  obtain ⟨h6, h7⟩ := constsOk_reps (S := S') (w := w) hz
  have hH := Inv.lentParts (ps.map fun p => p.2.2) hI'
  have hin : ∀ p ∈ ps, p.2.2 ∈ ps.map fun p => p.2.2 := fun p hp => List.mem_map.2 ⟨p, hp, rfl⟩
  have eg := upds_dst_dulls (g := g) (ps.map fun p => p.2.2) dst (.own true e m cs) (slot_parts hrd)
  rw [eg]
  have hmr := made_reps h6 hpos m m (Nat.le_refl _)
  rw [List.take_of_length_le (by rw [Array.length_toList, size_madeCells]; exact Nat.le_refl _)] at hmr
  obtain ⟨vs, v1, v2, v3⟩ := fill_lent _ _ hH parts.toList ps _ cs (madeCells v.cells (m * z.length)) hps hin hcs hmr (ones_flatten h7 m)
  have hlen : ∀ (ps : List (Nat × Nat × D)) (z cs : List D), fillD z ps = some cs → cs.length = z.length := by
    intro ps
    induction ps with
    | nil => intro z cs h; simp [fillD] at h; rw [h]
    | cons p ps ih =>
      intro z cs h
      obtain ⟨o, m, d⟩ := p
      simp only [fillD] at h
      split at h <;> try (cases h; done)
      rename_i hk
      rw [ih _ _ h]
      unfold splice
      simp; omega
  have hcl : cs.length = m * z.length := by rw [hlen _ _ _ hcs, length_flatten_replicate]
  have hvl : vs.size = m * z.length := by rw [← hcl]; simpa using v2.1.symm
  have hmax : m ≤ maxLen := by
    have : m * 1 ≤ m * z.length := Nat.mul_le_mul_left _ hpos
    simp [maxLen]; omega
  have hI2 := hI'.newOwn (cells := vs) (e := e) (m := m) (cap := m) (ds := cs) (dst := dst) (by rw [h4, List.take_of_length_le (by rw [Array.length_toList, hvl]; exact Nat.le_refl _)]; exact v2) v3
    (by rw [h4]; exact hcl) (by rw [h4]; exact hvl) (Nat.le_refl _) hmax hdst (fun t' s1 z1 z2 => by
      rw [alias_dullAll] at z1
      exact halD rfl hal t' s1 z1 z2)
  have e1 : (parts.map fun x => (x.1, rho tm x.2)).toList = parts.toList.map fun p => (p.1, rho tm p.2) := by simp
  refine ⟨.slice (some ⟨w.heap.size, 0, none⟩) m m, _, ?_, hI2⟩
  by_cases hm : m = 0
  · subst hm
    have hmk : madeCells v.cells (0 * z.length) = #[] := by simp [madeCells]
    rw [hmk, ← e1] at v1
    simp only [Nat.zero_mul] at hmk
    have hexec : (Instr.buildSlice t 0 (parts.map fun x => (x.1, rho tm x.2))).run P w = .ok (.slice (some ⟨w.heap.size, 0, none⟩) 0 0) (w.alloc (.cells vs e)) := by
      simp only [Instr.buildSlice, Sem.run_bind, run_underlying hu, sizeOf, typeInfo, hi, h3, Result.andThen_ok, run_program, Sem.run_pure, Nat.zero_mul, Nat.not_lt_zero, if_false, if_true, Sem.run_ite]
      have hr0 : ∀ f : Nat → Value, (Array.range 0).map f = #[] := fun f => by simp
      simp at v1
      simp [hr0, v1, newRow]
    simp [execOp, hop, hexec]
  · have hexec := run_buildSlice (P := P) w t e m (parts.map fun x => (x.1, rho tm x.2)) vs i v hu hi hv (by rw [h3]; simpa using hsm) (by rw [h3]; have := Nat.mul_ne_zero hm (by omega : z.length ≠ 0); exact this)
      (by rw [e1, h3]; exact v1)
    simp [execOp, hop, hexec]

/-! a whole array as a slice; the array behind a slice -/
theorem sound_slA (m sz : Nat) (x : PX) : Sound P (.slA m sz x) := by
  intro n S0 S w0 w O g tm o dst l hI hc hrd hdst hrun hal
  simp only [chkOp] at hc
  split at hc <;> try (cases hc; done)
  rename_i t a hop
  simp only [Bool.and_eq_true] at hc
  obtain ⟨h1, h4⟩ := hc
  split at h4 <;> try (cases h4; done)
  rename_i n' e hu
  simp only [Bool.and_eq_true, beq_iff_eq] at h4
  obtain ⟨⟨rfl, rfl⟩, h5⟩ := h4
  simp only [K.run] at hrun
  split at hrun <;> try (cases hrun; done)
  rename_i s cs hs hl
  split at hrun <;> cases hrun
  rename_i hk
  have hsd : s ≠ dst := fun e => hrd (e ▸ PX.slot_reads hs)
  obtain ⟨S', hI', hSS⟩ := hI.dullAll [s]
  have hr := hI'.lent h1 hl (ev_dullAll [s] x (fun d e => chkX_k (e ▸ h1)) (fun s' e => by rw [hs] at e; cases e; simp))
  generalize hv : rho tm a = v at hr
  cases hr with
  | pt ds b off vs hl1 h11 hrow hh =>
    have hr2 : Rep S' w (.sl m (cs.take (m * P.cellsOf e))) (.slice (some ⟨b, off, none⟩) m m) :=
      .sl m _ b off m (vs.take (m * P.cellsOf e)) (by simp [hl1]) (fun d hd => h11 d (List.mem_of_mem_take hd)) (Nat.le_refl _) (by have := hk.2; unfold maxLen; omega) (hrow.take _) (Reps.take ⟨hl1, hh⟩ _).2
    have h6 := hI'.setPure hI'.extRefl (fun _ _ z => z) (fun _ _ z => .inl z) hr2 hdst (fun t' s1 z1 z2 => by
      rw [alias_dullAll] at z1
      exact halD rfl hal t' s1 z1 z2)
    have eg : upds g [(dst, .sl m (cs.take (m * P.cellsOf e))), (s, (g s).dull)] = upd (Pi.dullAll g [s]) dst (.sl m (cs.take (m * P.cellsOf e))) := by
      simp only [upds]
      rw [upd_comm g _ _ (fun z => hsd z.symm)]
      congr 1
      funext t'
      simp only [upd, Pi.dullAll, List.mem_singleton]
      split
      · rename_i e; rw [e]
      · rfl
    rw [eg]
    refine ⟨.slice (some ⟨b, off, none⟩) m m, w, ?_, S', _, _, h6⟩
    have h0 : (m = 0) ∨ ¬(m = 0) := Classical.em _
    rcases h0 with h0 | h0
    · subst h0
      simp [execOp, hop, hv, Instr.sliceAt, run_underlying hu, Instr.sureAddr, Instr.sliceBounds, run_sizeOf h5]
    · simp [execOp, hop, hv, Instr.sliceAt, run_underlying hu, Instr.sureAddr, Instr.sliceBounds, run_sizeOf h5, h0, Addr.add]

theorem sound_s2a (m sz : Nat) (x : PX) : Sound P (.s2a m sz x) := by
  intro n S0 S w0 w O g tm o dst l hI hc hrd hdst hrun hal
  simp only [chkOp] at hc
  split at hc <;> try (cases hc; done)
  rename_i t a hop
  simp only [Bool.and_eq_true] at hc
  obtain ⟨h1, h4⟩ := hc
  split at h4 <;> try (cases h4; done)
  rename_i n' e hu
  simp only [Bool.and_eq_true, beq_iff_eq] at h4
  obtain ⟨rfl, rfl⟩ := h4
  simp only [K.run] at hrun
  split at hrun <;> try (cases hrun; done)
  rename_i k cs he
  split at hrun <;> cases hrun
  rename_i hk
  have hr := hI.opnd h1 (by rw [he]; rfl)
  rw [he] at hr
  generalize hv : rho tm a = v at hr
  cases hr with
  | sl0 a cap hc => omega
  | slN => omega
  | sl k ds bb off cap vs hl h5 hn hcc hrow h =>
    refine hI.val hdst (by simpa [K.kills] using hal) (v := .pointer (some ⟨bb, off, none⟩)) ?_ ?_
    · exact .pt _ _ _ (vs.take (m * P.cellsOf e)) (by simp [hl]) (fun d hd => h5 d (List.mem_of_mem_take hd)) (hrow.take _) ((Reps.take ⟨hl, h⟩ _).2)
    · simp [execOp, hop, hv, Instr.arrayAt, run_underlying hu, Nat.not_lt.2 hk.1]

end Go.Pi

/-
  THE PROOFS, seventh part: stores and appends. Own work.
-/
namespace Go.Pi
open Go Go.RowKit

variable {P : Program} {n : Nz} {S0 S : Nat → Nat → Prop} {w0 w : World} {O : Nat → Option Nat} {g : G} {tm : Array Value} {o : Oper} {dst : Nat}

theorem setMem_owned {d : D} {cs : List D} (h : d.owned = true) : (d.setMem cs).owned = true := by cases d <;> first | rfl | simp [D.owned] at h

theorem sound_st {m : Nat} {x v : PX} {l : List (Nat × D)} (hI : Inv P n S0 w0 S O g tm w) (hc : chkOp P o (.st m x v) = true) (hrun : (K.st m x v).run dst g = some l) :
    ∃ w', (execOp (rho tm) o).run P w = .ok .skip w' ∧ Good P n S0 w0 (upds g l) tm w' := by
  simp only [chkOp] at hc
  split at hc <;> try (cases hc; done)
  rename_i t a b hop
  simp only [Bool.and_eq_true, beq_iff_eq] at hc
  obtain ⟨⟨⟨h1, h2⟩, h3⟩, h4⟩ := hc
  simp only [K.run] at hrun
  split at hrun <;> try (cases hrun; done)
  rename_i s off ha
  split at hrun <;> cases hrun
  rename_i hk
  obtain ⟨k1, k2, k3, k4, k5⟩ := hk
  obtain ⟨bb, h8, e1, _⟩ := hI.ownOf h1 ha
  have hown : (g s).owned = true := by cases hg : g s <;> rw [hg] at k1 <;> first | rfl | simp [D.wr] at k1
  obtain ⟨r1, r2⟩ := cells_rep (hI.opnd h2 k5) k4
  have hsl := hI.slot s
  obtain ⟨arr, e, hb, hreps, h5⟩ := hsl.block hown h8
  have hml : (g s).mem.length ≤ arr.size := by
    have := hreps.1
    rw [List.length_take] at this
    simp at this; omega
  have hvl : (rho tm b).cells.size = m := by rw [← k2]; simpa using r1.1.symm
  have hfit : off + 0 + (rho tm b).cells.toList.length ≤ arr.size := by simp; omega
  have hex := run_storeCells_at P bb off e (rho tm b).cells.toList 0 arr w hb hfit (fun u hu => by
    obtain ⟨i, hi⟩ := List.getElem?_of_mem hu
    have hlt : i < (v.ev g).cells.length := by rw [r1.1]; exact (List.getElem?_eq_some_iff.1 hi).1
    exact (r1.2 i _ u (List.getElem?_eq_getElem hlt) hi).oneCell (r2 _ (List.getElem_mem hlt)))
  simp only [Nat.add_zero] at hex
  generalize hnew : (arr.toList.take off ++ (rho tm b).cells.toList ++ arr.toList.drop (off + (rho tm b).cells.toList.length)).toArray = arr' at hex
  have hnl : arr'.toList = arr.toList.take off ++ (rho tm b).cells.toList ++ arr.toList.drop (off + (rho tm b).cells.toList.length) := by rw [← hnew]
  have hsz' : arr'.size = arr.size := by
    have := congrArg List.length hnl
    simp at this; omega
  -- nothing of the block is settled
  have hnoS : ∀ j, ¬ S bb j := by
    intro j hj
    rw [SR.owned_iff hown] at hsl
    cases hg : g s <;> rw [hg] at hown k1 hsl <;> (try (simp [D.owned] at hown; done)) <;> simp only [D.wr] at k1 <;> subst k1 <;> simp only [OwnR] at hsl
    · rcases hsl with ⟨z, _⟩ | ⟨b', cap, ar, z1, z2, z3, z4, z5, z6, z7, z8, z9, z10, z11⟩
      · rw [h8] at z; cases z
      · rw [h8] at z1; cases z1; simpa using (z10 j hj).1
    · obtain ⟨b', ar, e', z1, z2, z3, z8, z9, z10, z11⟩ := hsl
      rw [h8] at z1; cases z1; simpa using (z10 j hj).1
  have hcells : ∀ b' o', S b' o' → (w.setRow bb arr').cell? ⟨b', o', none⟩ = w.cell? ⟨b', o', none⟩ := fun b' o' hs => cell_setRow_other w bb arr' _ (fun z => hnoS o' (by simp at z; subst z; exact hs))
  have hspl : Reps S w (splice (g s).mem off (v.ev g).cells) (arr'.toList.take (g s).mem.length) := by
    have h9 := Reps.splice (off := off) hreps r1
    have e2 : (arr.toList.take (g s).mem.length).take off ++ (rho tm b).cells.toList ++ (arr.toList.take (g s).mem.length).drop (off + (rho tm b).cells.toList.length) = arr'.toList.take (g s).mem.length := by
      rw [hnl]
      apply List.ext_getElem?
      intro k
      rw [splice_get _ _ _ (by simp; omega)]
      simp only [List.getElem?_take]
      rw [splice_get _ _ _ (by simp; omega)]
      by_cases h10 : k < (g s).mem.length
      · simp only [h10, if_true]
      · simp only [h10, if_false]
        rw [if_neg (by simp; omega)]
    rw [e2] at h9; exact h9
  have hone : ∀ d ∈ splice (g s).mem off (v.ev g).cells, d.one = true := fun d hd => by
    unfold splice at hd
    simp only [List.mem_append] at hd
    rcases hd with (hd | hd) | hd
    · exact h5 d (List.mem_of_mem_take hd)
    · exact r2 d hd
    · exact h5 d (List.mem_of_mem_drop hd)
  have hspl2 := hspl.mono (S' := S) (w' := w.setRow bb arr') (fun _ _ z => z) hcells
  have hsll : (splice (g s).mem off (v.ev g).cells).length = (g s).mem.length := by unfold splice; simp; omega
  have hI2 := hI.ownChange (s := s) (b := bb) (d' := (g s).setMem (splice (g s).mem off (v.ev g).cells)) (w' := w.setRow bb arr') (S' := S) h8 ⟨_, _, _, hb⟩ (setMem_owned hown) (fun _ _ z => z) (fun _ _ z => .inl z)
    (fun k hk => setRow_other w bb k arr' hk) (fun o' hs => absurd hs (hnoS o')) (setRow_size w bb arr') rfl rfl rfl (by
      rw [SR.owned_iff hown] at hsl
      rw [h8] at hsl
      have hb' := setRow_heap w bb arr arr' e (0, 0) hb
      cases hg : g s <;> rw [hg] at hown k1 hsl hspl2 hone hsll <;> (try (simp [D.owned] at hown; done)) <;> simp only [D.wr] at k1 <;> subst k1 <;> simp only [OwnR, D.setMem, D.mem] at hsl hspl2 hone hsll ⊢
      · rcases hsl with ⟨z, _⟩ | ⟨b', cap, ar, z1, z2, z3, z4, z5, z6, z7, z8, z9, z10, z11⟩
        · cases z
        · cases z1
          rw [hb] at z3; cases z3
          exact .inr ⟨bb, cap, arr', rfl, z2, hb', z4, z5, by rw [hsz']; exact z6, by rw [hsll]; exact z7, by rw [← z7]; exact hspl2, hone, fun j hj => absurd hj (hnoS j), fun hf => by cases hf⟩
      · obtain ⟨b', ar, e', z1, z2, z3, z8, z9, z10, z11⟩ := hsl
        cases z1
        rw [hb] at z3; cases z3
        refine ⟨bb, arr', e, rfl, z2, hb', ?_, hone, fun j hj => absurd hj (hnoS j), fun hf => by cases hf⟩
        rw [List.take_of_length_le (by rw [z8.1]; simp [hsz'])] at hspl2
        exact hspl2)
  refine ⟨w.setRow bb arr', ?_, S, O, _, hI2⟩
  have hsv : (storeVar t ⟨bb, off, none⟩ (rho tm b)).run P w = .ok () (w.setRow bb arr') := by
    unfold storeVar
    rw [Sem.run_bind, run_sizeOf h4]
    simp only [Result.andThen_ok]
    rw [if_neg (by rw [h3, hvl]; simp)]
    simp [hex]
  simp [execOp, hop, e1, Instr.storeAt, Instr.sureAddr, hsv]

/-- a slot gets an owned slice whose block nobody owns -/
theorem Inv.takeBlock {b cap m : Nat} {e : TypeId} {arr : Array Value} {ds : List D} {wr : Bool} (h : Inv P n S0 w0 S O g tm w) (hdg : dst < GB) (hu : g dst = .un) (hal : ∀ t' s, aliasOf (g t') = some s → s ≠ dst)
    (hv : tm.getD dst undef = .slice (some ⟨b, 0, none⟩) m cap) (hb : w.heap[b]? = some (.cells arr e (0, 0))) (hbase : w0.heap.size ≤ b) (hfree : ∀ t', O t' ≠ some b) (hnf : ¬ n.fb b)
    (hm : m ≤ cap) (hc : cap ≤ maxLen) (hsz : arr.size = cap * P.cellsOf e) (hl : ds.length = m * P.cellsOf e) (hr : Reps S w ds (arr.toList.take (m * P.cellsOf e))) (h1 : ∀ d ∈ ds, d.one = true)
    (hS : ∀ j, S b j → wr = false ∧ j < ds.length) : Good P n S0 w0 (upd g dst (.own wr e m ds)) tm w := by
  have hlt : b < w.heap.size := (Array.getElem?_eq_some_iff.1 hb).1
  have h2 : Inv P n S0 w0 (fun b' j => S b' j ∨ (wr = false ∧ b' = b ∧ j < ds.length)) O g tm w := h.settle (fun _ _ z => .inl z) (fun b' j z => by
    rcases z with z | ⟨_, rfl, _⟩
    · exact .inl z
    · exact .inr ⟨hbase, hlt, hfree, hnf⟩)
  refine ⟨_, _, _, h2.put (O' := fun t' => if t' = dst then some b else O t') (t := dst) (d := .own wr e m ds) (fun t' e => by simp [e]) hu hal (fun b' z => by simp at z; subst z; exact ⟨hbase, hlt, hfree, hnf⟩) ?_ (.inr rfl)⟩
  simp only [SR, OwnR]
  refine .inr ⟨b, cap, arr, by simp, (tmOf_lt hdg).trans hv, hb, hm, hc, hsz, hl, hr.mono (fun _ _ z => .inl z) (fun _ _ _ => rfl), h1, fun j hj => ?_, fun hf j hj => .inr ⟨hf, rfl, hj⟩⟩
  rcases hj with hj | ⟨z1, _, z2⟩
  · exact hS j hj
  · exact ⟨z1, z2⟩

theorem run_append_none {t ty e : TypeId} (hu : P.underlying t = some (.slice e)) (hi : (P.info? e).isSome = true) {v x : Value} {a b : Option Addr} {m cap c : Nat} (hv : v = .slice a m cap) (hx : x = .slice b 0 c) (hm : m ≤ cap) :
    (Builtin.append_ #[t, t] ty #[v, x]).run P w = .ok v w := by
  obtain ⟨i, hi⟩ := Option.isSome_iff_exists.1 hi
  subst hv; subst hx
  cases b <;> cases a <;> simp [Builtin.append_, run_underlying hu, sizeOf, typeInfo, hi, Builtin.lenOf, Builtin.firstCells, hm, storeCells, loadCells, loadCellsFrom]

/-- the cells of a slice that is read as the source of an append -/
theorem Inv.srcCells (hI : Inv P n S0 w0 S O g tm w) {y : Operand} {x : PX} {k : Nat} {ms : List D} (hx : chkX y x = true) (hy : (x.ev g).slv = some (k, ms)) (hk : k ≠ 0) :
    ∃ sb so yc us, rho tm y = .slice (some ⟨sb, so, none⟩) k yc ∧ (∀ (j : Nat) (u : Value), us[j]? = some u → w.cell? ((⟨sb, so, none⟩ : Addr).add j) = some u) ∧ Reps S w ms us ∧ ∀ d ∈ ms, d.one = true := by
  cases hg : x.ev g <;> rw [hg] at hy <;> simp only [D.slv] at hy <;> cases hy
  · have hr := hI.opnd hx (by rw [hg]; rfl)
    rw [hg] at hr
    generalize hq : rho tm y = q at hr
    cases hr with
    | sl0 a' cap' hc' => exact absurd rfl hk
    | slN => exact absurd rfl hk
    | sl m' ds b' off cap' vs hl1 h11 hn' hc' hrow hh =>
      exact ⟨b', off, cap', vs, rfl, fun j u hj => by rw [Addr.addL]; exact (hrow j u hj).2, ⟨hl1, hh⟩, h11⟩
  · obtain ⟨s, _, _, h3⟩ := hI.opndOwn hx (by rw [hg]; rfl)
    rw [hg] at h3
    simp only [OwnR] at h3
    rcases h3 with ⟨_, _, rfl, _⟩ | ⟨b', cap, arr, z1, z2, z3, z4, z5, z6, z7, z8, z9, _⟩
    · exact absurd rfl hk
    · refine ⟨b', 0, cap, _, z2, fun j u hj => ?_, z8, z9⟩
      rw [Addr.addL, Nat.zero_add, cell_of_row w b' j arr _ (0, 0) z3]
      rw [List.getElem?_take] at hj
      split at hj
      · simpa using hj
      · cases hj

theorem sound_app (e sz bytes : Nat) (x y : PX) : Sound P (.app e sz bytes x y) := by
  intro n S0 S w0 w O g tm o dst l hI hc hrd hdst hrun hal
  simp only [chkOp] at hc
  split at hc <;> try (cases hc; done)
  rename_i args argTypes hop
  split at hc <;> try (cases hc; done)
  rename_i a b t t' ha ht
  simp only [Bool.and_eq_true, beq_iff_eq, decide_eq_true_eq] at hc
  obtain ⟨⟨⟨⟨⟨⟨⟨rfl, h1⟩, h2⟩, h3⟩, h4⟩, h5⟩, h6⟩, h7⟩ := hc
  cases arr2 ha; cases arr2 ht
  have hu := isSl_iff h3
  split at h7 <;> try (cases h7; done)
  rename_i i hi
  split at h7 <;> try (cases h7; done)
  rename_i zv hz
  have hzc : zv.cells.size = i.size := by simpa using h7
  have hsize : i.size = sz := by rw [← h4]; simp [Program.cellsOf, hi]
  have hbytes : i.bytes = bytes := by rw [← h5]; simp [Program.bytesOf, hi]
  simp only [K.run] at hrun
  split at hrun <;> try (cases hrun; done)
  rename_i s wr e' m cs k ms hs hx hy
  split at hrun <;> try (cases hrun; done)
  rename_i hk
  obtain ⟨rfl, k1, k2, k3⟩ := hk
  obtain ⟨ob, q3, hob⟩ : ∃ ob, OwnR P S w ob (.own wr e' m cs) (rho tm a) ∧ ∀ bb, ob = some bb → O s = some bb := by
    by_cases hn : x.ev g = .sl 0 [.un]
    · rw [hn] at hx
      have hr := hI.opnd h1 (by rw [hn]; rfl)
      rw [hn] at hr
      simp only [ownN] at hx
      cases hx
      generalize rho tm a = va at hr
      cases hr with
      | slN => exact ⟨none, by simp [OwnR], fun _ h => by cases h⟩
      | sl _ _ _ _ _ _ _ h1 => exact absurd (h1 .un (by simp)) (by simp [D.one])
    · have hx' : x.ev g = .own wr e' m cs := by
        unfold ownN at hx
        split at hx
        · rename_i hq; exact absurd hq hn
        · exact hx
      obtain ⟨s', q1, q2, q3⟩ := hI.opndOwn h1 (by rw [hx']; rfl)
      rw [hs] at q1; cases q1
      rw [hx'] at q3
      exact ⟨_, q3, fun _ h => h⟩
  have hsd : s ≠ dst := fun e => hrd (by simp only [K.reads, List.mem_append]; exact .inl (e ▸ PX.slot_reads hs))
  -- the slots that are forgotten
  have hkills : (K.app e' sz bytes x y).kills dst = dst :: x.reads := rfl
  have hsr : s ∈ x.reads := PX.slot_reads hs
  have hd := hI.drops (dst :: x.reads) (fun t' s1 z1 z2 => by rw [← hkills] at z2 ⊢; exact hal t' s1 z1 z2)
  have hna : ∀ t' s1, aliasOf (if t' ∈ dst :: x.reads then D.un else g t') = some s1 → s1 ≠ dst := fun t' s1 z1 z2 => by
    split at z1
    · cases z1
    · rename_i hn; exact hn (by rw [← hkills]; exact hal t' s1 z1 (by rw [hkills]; simp [z2]))
  have hl : upds g l = upd (fun t' => if t' ∈ dst :: x.reads then D.un else g t') dst (.own wr e' (m + k) (cs ++ ms)) := by
    have hdr : dst ∉ x.reads := fun z => hrd (by simp only [K.reads, List.mem_append]; exact .inl z)
    cases x with
    | v t0 =>
      simp [PX.slot] at hs; subst hs
      simp only at hrun; cases hrun
      funext z
      simp only [upds, upd, PX.reads, List.mem_cons, List.not_mem_nil, or_false]
      by_cases z1 : z = t0
      · subst z1; simp [hsd]
      · by_cases z2 : z = dst
        · subst z2; simp [z1]
        · simp [z1, z2]
    | k d => simp [PX.slot] at hs
    | o t0 s0 =>
      simp [PX.slot] at hs; subst hs
      simp only at hrun; cases hrun
      simp only [PX.reads, List.mem_cons, List.not_mem_nil, or_false, not_or] at hdr
      funext z
      simp only [upds, upd, PX.reads, List.mem_cons, List.not_mem_nil, or_false]
      by_cases z1 : z = t0
      · subst z1
        have : ¬ z = dst := fun e => hdr.1 e.symm
        simp [this]
      · by_cases z2 : z = s0
        · subst z2; simp [z1, hsd]
        · by_cases z3 : z = dst
          · subst z3; simp [z1, z2]
          · simp [z1, z2, z3]
  rw [hl]
  have hexec : ∀ v w', (Builtin.append_ #[t, t] o.type #[rho tm a, rho tm b]).run P w = .ok v w' → (execOp (rho tm) o).run P w = .ok (.value v) w' := by
    intro v w' h
    simp [execOp, hop, resolve, invoke, builtin, h]
  have hinfo : (P.info? e').isSome = true := by rw [hi]; rfl
  simp only [OwnR] at q3
  have htm : ∀ v, (tm.setIfInBounds dst v).getD dst undef = v := fun v => (tmOf_lt (gv := n.gv) (hI.has hdst)).symm.trans (tmOf_set tm v (by rw [hI.size]; exact hdst.1) (hI.has hdst))
  have hfreeOf : ∀ bb, O s = some bb → ∀ t', (if t' ∈ dst :: x.reads then none else O t') ≠ some bb := fun bb z1 t' z => by
    split at z
    · cases z
    · rename_i hn; have := hI.inj t' s bb z z1; subst this; exact hn (List.mem_cons_of_mem _ hsr)
  have hnewfree : ∀ t', (if t' ∈ dst :: x.reads then none else O t') ≠ some w.heap.size := fun t' z => by
    split at z
    · cases z
    · have := (hI.base t' _ z).2; omega
  by_cases hk0 : k = 0
  · -- nothing is appended
    subst hk0
    have hms : ms = [] := by simpa using k1
    subst hms
    rw [List.append_nil, Nat.add_zero]
    obtain ⟨Sy, hry⟩ := hI.plainSlice h2 hy
    obtain ⟨ya, yc, ey, hyn, hyc⟩ := hry.sl_len
    rcases q3 with ⟨z1, z2, rfl, rfl⟩ | ⟨bb, cap, arr, z1, z2, z3, z4, z5, z6, z7, z8, z9, z10, z11⟩
    · refine ⟨_, w, hexec _ _ (run_append_none hu hinfo z2 ey (Nat.le_refl _)), S, _, _, (hd.touch _ hdst.2 (by simp) hna).put (O' := fun t' => if t' = dst then none else if t' ∈ dst :: x.reads then none else O t') (fun t' z => by simp [z]) (by simp) hna (fun b z => by simp at z) ?_ (.inl (hI.has hdst))⟩
      simp only [SR, OwnR]
      exact .inl ⟨by simp, by rw [tmOf_lt (hI.has hdst), htm]; exact z2, trivial, trivial⟩
    · replace z1 := hob _ z1
      exact ⟨_, w, hexec _ _ (run_append_none hu hinfo z2 ey z4), (hd.touch _ hdst.2 (by simp) hna).takeBlock (hI.has hdst) (by simp) hna (by rw [htm]; exact z2) z3 (hI.base s bb z1).1 (hfreeOf bb z1) (hI.nfb_own z1) z4 z5 z6 z7 z8 z9 z10⟩
  · -- something is appended: its cells
    obtain ⟨sb, so, yc, us, ey, hus, hys, h1ms⟩ := hI.srcCells h2 hy hk0
    have husl : us.length = k * sz := by rw [← hys.1]; exact k1
    have h1us : ∀ u ∈ us, u.oneCell' = true := fun u hu => by
      obtain ⟨j, hj⟩ := List.getElem?_of_mem hu
      have hlt : j < ms.length := by rw [hys.1]; exact (List.getElem?_eq_some_iff.1 hj).1
      exact (hys.2 j _ u (List.getElem?_eq_getElem hlt) hj).oneCell (h1ms _ (List.getElem_mem hlt))
    have h63 : m + k ≤ 9223372036854775807 := by simp only [maxLen] at k3; omega
    have hcap0 : ∀ old, grownCap w (m + k) old e' ≤ maxLen := fun old => grownCap_le_maxLen _ _ _ _ k3
    have hcap1 : ∀ old, m + k ≤ grownCap w (m + k) old e' := fun old => grownCap_ge _ _ _ _
    have hzz : ∀ c, (Builtin.zeroCells zv.cells c).size = c * sz := fun c => by simp [Builtin.zeroCells, hzc, hsize]
    -- a new block with old and new cells
    have fresh : ∀ (olds : List Value) (cap : Nat) (v : Value) (arr' : Array Value), v = .slice (some ⟨w.heap.size, 0, none⟩) (m + k) cap → Reps S w cs olds → (∀ d ∈ cs, d.one = true) → olds.length = m * sz → m + k ≤ cap → cap ≤ maxLen →
        arr'.toList = olds ++ us ++ (Builtin.zeroCells zv.cells (cap - (m + k))).toList → (Builtin.append_ #[t, t] o.type #[rho tm a, rho tm b]).run P w = .ok v (w.drew.alloc (.cells arr' e')) →
        ∃ v w', (execOp (rho tm) o).run P w = .ok (.value v) w' ∧ Good P n S0 w0 (upd (fun t' => if t' ∈ dst :: x.reads then D.un else g t') dst (.own wr e' (m + k) (cs ++ ms))) (tm.setIfInBounds dst v) w' := by
      intro olds cap v arr' hv hro h1o hlo hc1 hc2 harr hrun
      have hx : Ext w0 w (w.drew.alloc (.cells arr' e')) := (hI.extRefl.drew).alloc hI.below.size _
      have hI3 := (hd.touch v hdst.2 (by simp) hna).ext hx
      have hsz : arr'.size = cap * sz := by
        have := congrArg List.length harr
        simp [hzz, hlo, husl] at this
        rw [this, ← Nat.add_mul, ← Nat.add_mul]
        congr 1; omega
      have hcl : (cs ++ ms).length = (m + k) * sz := by rw [List.length_append, hro.1, hlo, k1, Nat.add_mul]
      have htk : arr'.toList.take ((m + k) * sz) = olds ++ us := by
        rw [harr, List.take_append_of_le_length (by rw [List.length_append, hlo, husl, Nat.add_mul]; exact Nat.le_refl _), List.take_of_length_le (by rw [List.length_append, hlo, husl, Nat.add_mul]; exact Nat.le_refl _)]
      have hcell : ∀ b' o', S b' o' → (w.drew.alloc (.cells arr' e')).cell? ⟨b', o', none⟩ = w.cell? ⟨b', o', none⟩ := fun b' o' z => cell_of_heap (hx.blocks b' (hI.ex b' o' z))
      refine ⟨v, _, hexec _ _ hrun, hI3.takeBlock (b := w.heap.size) (cap := cap) (arr := arr') (hI.has hdst) (by simp) hna (by rw [htm]; exact hv) (heap_new w.drew _) hI.below.size hnewfree (hI.nfb_ge (Nat.le_refl _)) hc1 hc2 (by rw [h4]; exact hsz) (by rw [h4]; exact hcl) ?_ ?_ (fun j hj => absurd hj (hI.noNew j))⟩
      · rw [h4, htk]; exact (hro.app hys).mono (fun _ _ z => z) hcell
      · intro d hd
        rcases List.mem_append.1 hd with z | z
        · exact h1o d z
        · exact h1ms d z
    rcases q3 with ⟨z1, z2, rfl, rfl⟩ | ⟨bb, cap, arr, z1, z2, z3, z4, z5, z6, z7, z8, z9, z10, z11⟩
    · -- onto nil
      have hr := run_append_nil (P := P) w t o.type e' i zv hu hi hz ⟨sb, so, none⟩ k yc us (by rw [hsize]; exact husl) hus (by omega) (by omega) (by rw [hbytes]; simp at k2; omega)
      refine fresh [] (grownCap w k 0 e') _ _ (by rw [Nat.zero_add]) .nil (fun d hd => by simp at hd) (by simp) (by have := hcap1 0; simpa using this) (by have := hcap0 0; simpa using this) ?_ (by rw [z2, ey]; exact hr)
      simp
    · replace z1 := hob _ z1
      by_cases hroom : m + k ≤ cap
      · -- within the capacity
        have hxs : (arr.toList.take (m * sz)).length = m * sz := by
          rw [List.length_take, Array.length_toList, z6, h4]
          exact Nat.min_eq_left (Nat.mul_le_mul_right _ z4)
        have hown : w.ownsRow w0.heap.size e' sz (.slice (some ⟨bb, 0, none⟩) m cap) m (arr.toList.take (m * sz)) :=
          ⟨hxs, .inr ⟨bb, cap, arr, rfl, (hI.base s bb z1).1, z3, z4, z5, by rw [z6, h4], rfl⟩⟩
        obtain ⟨w', hr, hown', hgrow⟩ := run_append_fits (P := P) w w0.heap.size t o.type e' i sz hu hi hsize bb m cap _ hown ⟨sb, so, none⟩ k yc us husl hus h1us hroom
        obtain ⟨hlen', hcase⟩ := hown'
        rcases hcase with ⟨hbad, _⟩ | ⟨g', cap', cur', e1, e2, e3, e4, e5, e6, e7⟩
        · cases hbad
        · simp only [Value.slice.injEq, Option.some.injEq, Addr.mk.injEq, and_true, true_and] at e1
          obtain ⟨rfl, rfl⟩ := e1
          have hcell : ∀ b' o', S b' o' → w'.cell? ⟨b', o', none⟩ = w.cell? ⟨b', o', none⟩ := fun b' o' z => by
            by_cases hbb : b' = bb
            · subst hbb
              have hj : o' < m * sz := by have := (z10 o' z).2; rw [z7, h4] at this; exact this
              rw [cell_of_row w' b' o' cur' e' (0, 0) e3, cell_of_row w b' o' arr e' (0, 0) z3]
              have h9 := congrArg (·[o']?) e7
              simp only [List.getElem?_take] at h9
              rw [if_pos (by rw [Nat.add_mul]; omega), List.getElem?_append_left (by rw [hxs]; exact hj), List.getElem?_take, if_pos hj] at h9
              simpa using h9
            · exact cell_of_heap (hgrow.block b' (hI.ex b' o' z) (fun z => hbb (by simpa using z)))
          have hI3 := (hd.touch (.slice (some ⟨bb, 0, none⟩) (m + k) cap) hdst.2 (by simp) hna).world (w' := w') (fun t' b' z => by
              refine hgrow.block b' ?_ (fun z' => ?_)
              · split at z
                · cases z
                · exact (hI.base t' b' z).2
              · have : b' = bb := by simpa using z'
                subst this
                exact hfreeOf b' z1 t' z) hcell (hI.below.grown hgrow hI.below.size (fun k' hk' => by cases hk'; exact (hI.base s bb z1).1)) hgrow.size
            (fun k' o' h1' h2' => (hgrow.block k' (Array.getElem?_eq_some_iff.1 h1').1 (fun z => by
              have : k' = bb := by simpa using z
              subst this
              rw [z3] at h1'; cases h1'; cases h2')).trans h1') (fun b' x => hgrow.block b' (hI.fb b' x).2.2.1 (fun z => by
              have : b' = bb := by simpa using z
              subst this
              exact hI.nfb_own z1 x))
          refine ⟨_, w', hexec _ _ (by rw [z2, ey]; exact hr), hI3.takeBlock (b := bb) (cap := cap) (arr := cur') (hI.has hdst) (by simp) hna (by rw [htm]) e3 (hI.base s bb z1).1 (hfreeOf bb z1) (hI.nfb_own z1) hroom z5 (by rw [h4]; exact e6) (by rw [List.length_append, z7, h4, k1, Nat.add_mul]) ?_ ?_ (fun j hj => ?_)⟩
          · rw [h4, e7]
            rw [h4] at z8
            exact (z8.app hys).mono (fun _ _ z => z) hcell
          · intro d hd
            rcases List.mem_append.1 hd with z | z
            · exact z9 d z
            · exact h1ms d z
          · have := z10 j hj
            exact ⟨this.1, by rw [List.length_append]; omega⟩
      · -- a new array
        have hxs : (arr.toList.take (m * sz)).length = m * i.size := by
          rw [List.length_take, Array.length_toList, z6, h4, hsize]
          exact Nat.min_eq_left (Nat.mul_le_mul_right _ z4)
        have hr := run_append_grow (P := P) w t o.type e' i zv hu hi hz ⟨bb, 0, none⟩ m cap (arr.toList.take (m * sz)) hxs (fun j v hj => by
            rw [Addr.addL, Nat.zero_add, cell_of_row w bb j arr e' (0, 0) z3]
            rw [List.getElem?_take] at hj
            split at hj
            · simpa using hj
            · cases hj) ⟨sb, so, none⟩ k yc us (by rw [hsize]; exact husl) hus (by omega) (by omega) (growslice_fits (by omega) (by rw [hbytes]; exact k2))
        rw [h4] at z8
        refine fresh (arr.toList.take (m * sz)) (grownCap w (m + k) cap e') _ _ rfl z8 z9 (by rw [hxs, hsize]) (hcap1 cap) (hcap0 cap) ?_ (by rw [z2, ey]; exact hr)
        simp

end Go.Pi

/-
  BOXES THAT HOLD A SLICE OF THE CALL'S OWN: what such a box holds is a slot of its own (from GB on). Own work.
-/
namespace Go.Pi
open Go Go.RowKit

variable {P : Program} {n : Nz} {S0 S : Nat → Nat → Prop} {w0 w : World} {O : Nat → Option Nat} {g : G} {tm : Array Value} {o : Oper} {dst : Nat}

/-- no field of the box or the value stands for G -/
def noG (G : Nat) : D → Prop
  | .mbx cs | .mag cs => D.al G ∉ cs
  | _ => True
theorem MCs.noG {w : World} {S : Nat → Nat → Prop} {f : Nat → Value} {t G : Nat} {cs : List D} {vs : List Value} (h : MCs S w f t cs vs) (hG : ∀ i, G ≠ GF t i) : D.al G ∉ cs := fun hm => by
  obtain ⟨i, hi, e⟩ := List.getElem_of_mem hm
  have h1 : cs[i]? = some (.al G) := by rw [List.getElem?_eq_getElem hi, e]
  have hiv : i < vs.length := by have := h.1; omega
  have h2 : vs[i]? = some vs[i] := List.getElem?_eq_getElem hiv
  rcases h.2 i _ _ h1 h2 with ⟨a, _⟩ | ⟨a, _⟩
  · cases a; exact hG i rfl
  · cases a
theorem Inv.noG_of (h : Inv P n S0 w0 S O g tm w) {G : Nat} (hG : ∀ t i, G ≠ GF t i) (z : Nat) : noG G (g z) := by
  have hs := h.slot z
  cases hg : g z <;> rw [hg] at hs <;> try trivial
  · obtain ⟨_, _, _, _, _, _, _, _, h6⟩ := hs
    exact h6.noG (hG z)
  · obtain ⟨_, _, _, _, h6⟩ := hs
    exact h6.noG (hG _)

/-- what a ghost slot stands for is changed -/
theorem Inv.setGv (h : Inv P n S0 w0 S O g tm w) {G : Nat} (x : Value) (hG : GB ≤ G) (hu : g G = .un) (hal : ∀ t s, aliasOf (g t) = some s → s ≠ G) (hb : ∀ t, g t ≠ .gbox G) (hm : ∀ t, noG G (g t)) :
    Inv P { n with gv := fun z => if z = G then x else n.gv z } S0 w0 S O g tm w where
  size := h.size
  below := h.below
  sub := h.sub
  sup := h.sup
  ex := h.ex
  inj := h.inj
  base := h.base
  fix := h.fix
  keep := h.keep
  nb := h.nb
  gh := h.gh
  fz := h.fz
  fb := h.fb
  slot := fun t => by
    have hs := h.slot t
    have eq : ∀ z, z ≠ G → tmOf (fun z => if z = G then x else n.gv z) tm z = tmOf n.gv tm z := fun z hz => by
      unfold tmOf; split
      · rfl
      · simp [hz]
    by_cases ht : t = G
    · subst ht; rw [hu] at hs ⊢; exact hs
    · have e := eq t ht
      have ha := hal t
      have hbt := hb t
      cases hg : g t <;> simp only [hg, SR, aliasOf] at hs ha hbt ⊢
      all_goals first
        | exact hs
        | (rw [e]; exact hs)
        | skip
      · rename_i s
        exact ⟨hs.1, by rw [e, hs.2, eq s (ha s rfl)]⟩
      · rename_i G'
        obtain ⟨b, ty, h1, h2, h3, h4, h5⟩ := hs
        exact ⟨b, ty, h1, by rw [e]; exact h2, by rw [eq G' (fun z => hbt (by rw [z]))]; exact h3, h4, h5⟩
      · have hmt := hm t
        rw [hg] at hmt
        obtain ⟨b, arr, ty, h1, h2, h3, h4, h5, h6⟩ := hs
        exact ⟨b, arr, ty, h1, by rw [e]; exact h2, h3, h4, h5, h6.congr fun i hi => eq _ fun z => hmt (z ▸ hi)⟩
      · have hmt := hm t
        rw [hg] at hmt
        obtain ⟨h1, vs, h2, h4, h3⟩ := hs
        exact ⟨h1, vs, by rw [e]; exact h2, h4, h3.congr fun i hi => eq _ fun z => hmt (z ▸ hi)⟩

/-- no slot but t is the box of GB + t -/
theorem Inv.gboxOf (h : Inv P n S0 w0 S O g tm w) {t z : Nat} (hz : g z = .gbox (GB + t)) : z = t := by
  have := h.slot z
  rw [hz] at this
  obtain ⟨_, _, _, _, _, _, _, _, h6⟩ := this
  omega

theorem constOk_slN {v : Value} (h : constOk v (.sl 0 [.un]) = true) : v = .slice none 0 0 := by
  unfold constOk at h
  split at h <;> simp_all

theorem GB_ne : GB ≠ 0 := by unfold GB; omega

theorem sound_alG (e : TypeId) : Sound P (.alG e) := by
  intro n S0 S w0 w O g tm o dst l hI hc hrd hdst hrun hal
  simp only [chkOp] at hc
  split at hc <;> try (cases hc; done)
  rename_i t hop
  simp only [Bool.and_eq_true] at hc
  obtain ⟨hz, hu⟩ := hc
  split at hu <;> try (cases hu; done)
  rename_i e' hue
  simp only [beq_iff_eq] at hu
  subst hu
  simp only [K.run] at hrun
  cases hrun
  obtain ⟨i, v, hi, hv, hz, h3, h4, h5⟩ := zeroOk_spec hz
  have hcells : v.cells = #[.slice none 0 0] := by
    have hl : v.cells.toList.length = 1 := by simpa using h5
    match hq : v.cells.toList, hl with
    | [x], _ =>
      rw [hq] at hz
      simp only [constsOk, Bool.and_true] at hz
      have := constOk_slN ((Bool.and_eq_true _ _).mp hz).1
      subst this
      apply Array.ext'
      simp [hq]
  have hlt := hI.has hdst
  have hne : dst ≠ GB + dst := by omega
  simp only [K.kills] at hal
  have hexec : (execOp (rho tm) o).run P w = .ok (.value (.pointer (some ⟨w.heap.size, 0, none⟩))) (w.alloc (.cells #[.slice none 0 0] t)) := by
    simp [execOp, hop, Instr.alloc, zeroValue, typeInfo, hi, hv, newVar, newRow, hcells]
  refine ⟨_, _, hexec, ?_⟩
  have h1 := (hI.ext (hI.extRefl.alloc hI.below.size (.cells #[.slice none 0 0] t))).drops [dst, GB + dst] (fun t' s h1 h2 => by simpa using hal t' s h1 (by simpa using h2))
  have hna : ∀ t' s, aliasOf (if t' ∈ [dst, GB + dst] then D.un else g t') = some s → s ≠ dst ∧ s ≠ GB + dst := fun t' s h2 => by
    split at h2
    · cases h2
    · rename_i hn
      exact ⟨fun e => hn (by simpa using hal t' s h2 (by simp [e])), fun e => hn (by simpa using hal t' s h2 (by simp [e]))⟩
  have h2 := h1.touch (t := dst) (.pointer (some ⟨w.heap.size, 0, none⟩)) hdst.2 (by simp) (fun t' s h => (hna t' s h).1)
  have h3 := h2.setGv (G := GB + dst) (.slice none 0 0) (by omega) (by simp) (fun t' s h => (hna t' s h).2) (fun z hz => by
    split at hz
    · cases hz
    · rename_i hn
      have := hI.gboxOf hz
      subst this
      simp at hn) (h2.noG_of fun t i => GF_ne i hlt)
  have h4 := h3.put (O' := fun z => if z ∈ [dst, GB + dst] then none else O z) (t := GB + dst) (d := .own true e 0 []) (fun z hz => rfl) (by simp) (fun t' s h => (hna t' s h).2) (fun b hb => by simp at hb)
    (.inl ⟨by simp, by rw [tmOf_ge (by omega)]; simp, rfl, rfl⟩) (.inr rfl)
  have h5 := h4.put (O' := fun z => if z = dst then some w.heap.size else if z ∈ [dst, GB + dst] then none else O z) (t := dst) (d := .gbox (GB + dst)) (fun z hz => by simp [hz]) (by simp [upd, hne, GB_ne]) (fun t' s h => by
      unfold upd at h
      split at h
      · cases h
      · exact (hna t' s h).1)
    (fun b hb => by
      simp at hb; subst hb
      refine ⟨hI.below.size, by simp, fun t' h => ?_, hI.nfb_ge (Nat.le_refl _)⟩
      split at h
      · cases h
      · have := (hI.base t' _ h).2; omega)
    ⟨w.heap.size, t, by simp, by rw [tmOf_lt hlt]; simp [hI.size, hdst.1], by rw [tmOf_ge (by omega)]; simp only [if_true]; exact heap_new w _, fun j => hI.noNew j, by omega, hlt, rfl⟩ (.inl hlt)
  have eg : upds g [(dst, .gbox (GB + dst)), (GB + dst, .own true e 0 [])] = upd (upd (fun t' => if t' ∈ [dst, GB + dst] then D.un else g t') (GB + dst) (.own true e 0 [])) dst (.gbox (GB + dst)) := by
    funext z
    simp only [upds, upd]
    by_cases z1 : z = dst
    · subst z1; simp [hne, hne.symm, GB_ne]
    · by_cases z2 : z = GB + dst
      · subst z2; simp [hne, hne.symm, GB_ne]
      · simp [z1, z2]
  rw [eg]
  exact ⟨_, _, _, h5⟩

theorem sound_lg (t : Nat) : Sound P (.lg t) := by
  intro n S0 S w0 w O g tm o dst l hI hc hrd hdst hrun hal
  simp only [chkOp] at hc
  split at hc <;> try (cases hc; done)
  rename_i ty t' hop
  simp only [Bool.and_eq_true, beq_iff_eq, decide_eq_true_eq] at hc
  obtain ⟨⟨⟨⟨rfl, htg⟩, h2⟩, h3⟩, h4⟩ := hc
  have ht : t ≠ dst := fun e => hrd (by simp [K.reads, e])
  have hs := hI.slot t
  simp only [K.run] at hrun
  split at hrun
  · rename_i G hg
    split at hrun <;> cases hrun
    rename_i hG
    subst hG
    rw [hg] at hs
    obtain ⟨b, e, q1, q2, q3, q4, q5, _⟩ := hs
    rw [tmOf_lt htg] at q2
    have hld := run_loadVar (P := P) (w := w) (vs := [tmOf n.gv tm (GB + t)]) (b := b) (off := 0) h2 (by rw [h3]; rfl) h4 (fun j v hj => by
      match j with
      | 0 => simp at hj; subst hj; simp [World.cell?, q3]
      | j + 1 => simp at hj) (fun _ => rfl)
    have hlt := hI.has hdst
    refine ⟨tmOf n.gv tm (GB + t), w, ?_, _, _, _, hI.setAl rfl (by omega) hdst (fun t' s h1 h2 => by simpa [K.kills] using hal t' s h1 (by simpa [K.kills] using h2))⟩
    have e1 : rho tm (.tmp t) = .pointer (some ⟨b, 0, none⟩) := q2
    simp [execOp, hop, e1, Instr.loadAt, Instr.sureAddr, hld]
  · rename_i wr d hg
    split at hrun <;> cases hrun
    rename_i hd
    rw [hg] at hs
    simp only [SR, OwnR] at hs
    obtain ⟨b, arr, e, q1, q2, q3, q4, _⟩ := hs
    rw [tmOf_lt htg] at q2
    obtain ⟨x, xs, hxe, r1, r2⟩ := q4.uncons
    have hxs : xs = [] := by cases xs with | nil => rfl | cons _ _ => have := r2.1; simp at this
    subst hxs
    have hld := run_loadVar (P := P) (w := w) (vs := [x]) (b := b) (off := 0) h2 (by rw [h3]; rfl) h4 (fun j v hj => by
      match j with
      | 0 =>
        simp at hj; subst hj
        have : arr[0]? = some x := by
          have : arr.toList[0]? = some x := by rw [hxe]; rfl
          simpa using this
        simp [World.cell?, q3, this]
      | j + 1 => simp at hj) (fun _ => rfl)
    refine hI.val hdst (by simpa [K.kills] using hal) (v := x) r1 ?_
    have e1 : rho tm (.tmp t) = .pointer (some ⟨b, 0, none⟩) := q2
    simp [execOp, hop, e1, Instr.loadAt, Instr.sureAddr, hld]
  · cases hrun

/-- a box of one cell: its block -/
theorem Inv.box1 (hI : Inv P n S0 w0 S O g tm w) {t : Nat} (h : isBox1 (g t) = true) (htg : t < GB) :
    ∃ b arr e, O t = some b ∧ tm.getD t undef = .pointer (some ⟨b, 0, none⟩) ∧ w.heap[b]? = some (.cells arr e (0, 0)) ∧ arr.size = 1 ∧ ∀ j, ¬ S b j := by
  have hs := hI.slot t
  unfold isBox1 at h
  split at h <;> try (cases h; done)
  · rename_i G hg
    rw [hg] at hs
    obtain ⟨b, e, q1, q2, q3, q4, _⟩ := hs
    rw [tmOf_lt htg] at q2
    exact ⟨b, _, e, q1, q2, q3, rfl, q4⟩
  · rename_i d hg
    rw [hg] at hs
    simp only [SR, OwnR] at hs
    obtain ⟨b, arr, e, q1, q2, q3, q4, _, q6, _⟩ := hs
    rw [tmOf_lt htg] at q2
    exact ⟨b, arr, e, q1, q2, q3, by have := q4.1; simpa using this.symm, fun j hj => by cases (q6 j hj).1⟩

/-- the block of a box gets a value -/
theorem exec_store1 {t b : Nat} {ty e : TypeId} {y : Operand} {arr : Array Value} (hop : o.op = .store ty (.tmp t) y) (h3 : P.cellsOf ty = 1) (h4 : (P.info? ty).isSome = true)
    (q2 : tm.getD t undef = .pointer (some ⟨b, 0, none⟩)) (q3 : w.heap[b]? = some (.cells arr e (0, 0))) (q4 : arr.size = 1) (h1 : (rho tm y).oneCell' = true) (hc : (rho tm y).cells = #[rho tm y]) :
    (execOp (rho tm) o).run P w = .ok .skip (w.setRow b #[rho tm y]) := by
  have hex := run_storeCells_at P b 0 e (rho tm y).cells.toList 0 arr w q3 (by rw [hc]; simp [q4]) (fun u hu => by rw [hc] at hu; simp at hu; rw [hu]; exact h1)
  have e1 : rho tm (.tmp t) = .pointer (some ⟨b, 0, none⟩) := q2
  have hr : (arr.toList.take 0 ++ (rho tm y).cells.toList ++ arr.toList.drop (0 + (rho tm y).cells.toList.length)).toArray = #[rho tm y] := by
    rw [hc]; simp [List.drop_eq_nil_of_le, q4]
  simp only [Nat.add_zero] at hex
  rw [hr] at hex
  have hsv : (storeVar ty ⟨b, 0, none⟩ (rho tm y)).run P w = .ok () (w.setRow b #[rho tm y]) := by
    unfold storeVar
    rw [Sem.run_bind, run_sizeOf h4]
    simp only [Result.andThen_ok]
    rw [if_neg (by rw [h3, hc]; simp)]
    simp [hex]
  simp [execOp, hop, e1, Instr.storeAt, Instr.sureAddr, hsv]

/-- a slot's block is turned while nobody holds it -/
theorem Inv.setRowFree (h : Inv P n S0 w0 S O g tm w) {b : Nat} {arr arr' : Array Value} {e : TypeId} (q3 : w.heap[b]? = some (.cells arr e (0, 0))) (hfree : ∀ t, O t ≠ some b) (hS : ∀ j, ¬ S b j) (h0 : w0.heap.size ≤ b) (hnf : ¬ n.fb b) :
    Inv P n S0 w0 S O g tm (w.setRow b arr') :=
  h.world (fun t b' ht => setRow_other w b b' arr' (fun z => hfree t (z ▸ ht))) (fun b' j hs => cell_setRow_other w b arr' _ (fun z => hS j (by simp at z; subst z; exact hs)))
    (h.below.trans ⟨rfl, rfl, rfl, by rw [setRow_size]; exact Nat.le_refl _, fun k hk => setRow_other w b k arr' (fun z => by omega)⟩) (by rw [setRow_size]; exact Nat.le_refl _) (fun k q hk hq => by
      by_cases z : k = b
      · subst z; rw [q3] at hk; cases hk; cases hq
      · rw [setRow_other w b k arr' z]; exact hk) (fun b' x => setRow_other w b b' arr' (fun z => hnf (z ▸ x)))

theorem upds_un (l : List Nat) : ∀ g : G, upds g (l.map fun z => (z, .un)) = fun z => if z ∈ l then .un else g z := by
  induction l with
  | nil => intro g; funext z; simp [upds]
  | cons a l ih =>
    intro g
    simp only [List.map_cons, upds, ih]
    funext z
    by_cases h1 : z ∈ l
    · simp [h1]
    · by_cases h2 : z = a
      · subst h2; simp [upd]
      · simp [h1, h2, upd]

theorem notin_of_all {l : List Nat} {t : Nat} (h : l.all (fun z => z != t && z != GB + t) = true) : ∀ z ∈ l, z ≠ t ∧ z ≠ GB + t := fun z hz => by
  have := List.all_eq_true.1 h z hz
  simpa using this

/-- the slots t, GB + t and those of l, written in this order -/
theorem upds_box {t : Nat} {l : List Nat} (g : G) (a b : D) (h : ∀ z ∈ l, z ≠ t ∧ z ≠ GB + t) :
    upds g ((t, a) :: (GB + t, b) :: l.map fun z => (z, .un)) = upd (upd (fun z => if z ∈ t :: (GB + t) :: l then D.un else g z) (GB + t) b) t a := by
  have hne : t ≠ GB + t := by unfold GB; omega
  show upds (upd (upd g t a) (GB + t) b) (l.map fun z => (z, .un)) = _
  rw [upds_un]
  funext z
  by_cases h1 : z ∈ l
  · obtain ⟨h2, h3⟩ := h z h1
    simp [h1, h2, h3, upd]
  · by_cases h2 : z = t
    · subst h2; simp [h1, upd, hne, GB_ne]
    · by_cases h3 : z = GB + t
      · subst h3; simp [h1, upd, GB_ne]
      · simp [h1, h2, h3, upd]

theorem sound_sgP {t : Nat} {v : PX} {ks : List Nat} {l : List (Nat × D)} (hI : Inv P n S0 w0 S O g tm w) (hc : chkOp P o (.sgP t v ks) = true) (hrun : (K.sgP t v ks).run dst g = some l)
    (hal : ∀ z s, aliasOf (g z) = some s → s ∈ (K.sgP t v ks).kills dst → z ∈ (K.sgP t v ks).kills dst) : ∃ w', (execOp (rho tm) o).run P w = .ok .skip w' ∧ Good P n S0 w0 (upds g l) tm w' := by
  simp only [chkOp] at hc
  split at hc <;> try (cases hc; done)
  rename_i ty t' y hop
  simp only [Bool.and_eq_true, beq_iff_eq] at hc
  obtain ⟨⟨⟨rfl, hx⟩, h3⟩, h4⟩ := hc
  simp only [K.run] at hrun
  split at hrun <;> cases hrun
  rename_i hk
  obtain ⟨k1, k2, k3, k4, k5⟩ := hk
  have hrd := notin_of_all k5
  obtain ⟨b, arr, e, q1, q2, q3, q4, q5⟩ := hI.box1 k1 k2
  have hr := hI.opnd hx k3
  refine ⟨_, exec_store1 hop h3 h4 q2 q3 q4 (hr.oneCell k4) (hr.one_of k4), ?_⟩
  have hne : t ≠ GB + t := by unfold GB; omega
  rw [upds_box g _ _ hrd]
  simp only [K.kills] at hal
  have hna : ∀ z s1, aliasOf (if z ∈ t :: (GB + t) :: ks then D.un else g z) = some s1 → s1 ≠ t ∧ s1 ≠ GB + t := fun z s1 h => by
    split at h
    · cases h
    · rename_i hn
      exact ⟨fun e => hn (hal z s1 h (by simp [e])), fun e => hn (hal z s1 h (by simp [e]))⟩
  have h1 := hI.drops (t :: (GB + t) :: ks) hal
  have h2 := h1.setRowFree (arr' := #[rho tm y]) q3 (fun z hz => by
    split at hz
    · cases hz
    · rename_i hn; exact hn (by rw [hI.inj z t b hz q1]; simp)) q5 (hI.base t b q1).1 (hI.nfb_own q1)
  have hlt : b < w.heap.size := (hI.base t b q1).2
  have e2 : upd (fun z => if z ∈ t :: (GB + t) :: ks then D.un else g z) (GB + t) .un = fun z => if z ∈ t :: (GB + t) :: ks then D.un else g z := by
    funext z
    simp only [upd]
    split
    · rename_i h; subst h; simp
    · rfl
  rw [e2]
  have h3' := h2.put (O' := fun z => if z = t then some b else if z ∈ t :: (GB + t) :: ks then none else O z) (t := t) (d := .box true [v.ev g]) (fun z hz => by simp [hz]) (by simp) (fun z s h => (hna z s h).1)
    (fun b' hb => by
      simp at hb; subst hb
      refine ⟨(hI.base t _ q1).1, by rw [setRow_size]; exact hlt, fun z hz => ?_, hI.nfb_own q1⟩
      split at hz
      · cases hz
      · rename_i hn; exact hn (by rw [hI.inj z t _ hz q1]; simp))
    (by
      simp only [SR, OwnR]
      refine ⟨b, #[rho tm y], e, by simp, (tmOf_lt k2).trans q2, setRow_heap w b arr _ e (0, 0) q3, ?_, by simpa using k4, fun j hj => absurd hj (q5 j), fun hf => by cases hf⟩
      refine (Reps.cons hr .nil).mono (fun _ _ z => z) (fun b' j hs => cell_setRow_other w b _ _ (fun z => q5 j (by simp at z; subst z; exact hs)))) (.inl k2)
  exact ⟨_, _, _, h3'⟩

theorem sound_sgO {t : Nat} {v : PX} {ks : List Nat} {l : List (Nat × D)} (hI : Inv P n S0 w0 S O g tm w) (hc : chkOp P o (.sgO t v ks) = true) (hrun : (K.sgO t v ks).run dst g = some l)
    (hal : ∀ z s, aliasOf (g z) = some s → s ∈ (K.sgO t v ks).kills dst → z ∈ (K.sgO t v ks).kills dst) : ∃ w', (execOp (rho tm) o).run P w = .ok .skip w' ∧ Good P n S0 w0 (upds g l) tm w' := by
  simp only [chkOp] at hc
  split at hc <;> try (cases hc; done)
  rename_i ty t' y hop
  simp only [Bool.and_eq_true, beq_iff_eq] at hc
  obtain ⟨⟨⟨rfl, hx⟩, h3⟩, h4⟩ := hc
  simp only [K.run] at hrun
  split at hrun <;> try (cases hrun; done)
  rename_i hk
  obtain ⟨k1, k2, k3⟩ := hk
  have hrd := notin_of_all k3
  split at hrun <;> cases hrun
  rename_i s wr el m cs hs hev
  obtain ⟨b, arr, e, q1, q2, q3, q4, q5⟩ := hI.box1 k1 k2
  obtain ⟨s', r1, r2, r3⟩ := hI.opndOwn hx (by rw [hev]; rfl)
  rw [hs] at r1; cases r1
  rw [hev] at r2 r3
  obtain ⟨a0, c0, hv⟩ := r3.slice
  refine ⟨_, exec_store1 hop h3 h4 q2 q3 q4 (by rw [hv]; rfl) (by rw [hv]; rfl), ?_⟩
  have hne : t ≠ GB + t := by unfold GB; omega
  have hsr : s ∈ v.reads ++ ks := List.mem_append_left _ (PX.slot_reads hs)
  have hst := hrd s hsr
  rw [upds_box g _ _ hrd]
  simp only [K.kills] at hal
  generalize hks : v.reads ++ ks = kk at hal hsr hrd ⊢
  have hna : ∀ z s1, aliasOf (if z ∈ t :: (GB + t) :: kk then D.un else g z) = some s1 → s1 ≠ t ∧ s1 ≠ GB + t := fun z s1 h => by
    split at h
    · cases h
    · rename_i hn
      exact ⟨fun e => hn (hal z s1 h (by simp [e])), fun e => hn (hal z s1 h (by simp [e]))⟩
  have h1 := hI.drops (t :: (GB + t) :: kk) hal
  have h2 := h1.setRowFree (arr' := #[rho tm y]) q3 (fun z hz => by
    split at hz
    · cases hz
    · rename_i hn; exact hn (by rw [hI.inj z t b hz q1]; simp)) q5 (hI.base t b q1).1 (hI.nfb_own q1)
  have h3' := h2.setGv (G := GB + t) (rho tm y) (by omega) (by simp) (fun z s1 h => (hna z s1 h).2) (fun z hz => by
    split at hz
    · cases hz
    · rename_i hn
      have := hI.gboxOf hz
      subst this
      simp at hn) (h2.noG_of fun z i => GF_ne i k2)
  have hlt : b < w.heap.size := (hI.base t b q1).2
  have hbs : ∀ bb, O s = some bb → bb ≠ b := fun bb h e => hst.1 (hI.inj s t b (e ▸ h) q1)
  have hown : OwnR P S (w.setRow b #[rho tm y]) (O s) (.own wr el m cs) (rho tm y) :=
    r3.grow (fun _ _ z => z) (fun _ _ _ z => z) (fun b' j hs => cell_setRow_other w b _ _ (fun z => q5 j (by simp at z; subst z; exact hs))) (fun bb h => setRow_other w b bb _ (hbs bb h))
  have h4' := h3'.put (O' := fun z => if z = GB + t then O s else if z ∈ t :: (GB + t) :: kk then none else O z) (t := GB + t) (d := .own wr el m cs) (fun z hz => by simp [hz]) (by simp) (fun z s1 h => (hna z s1 h).2)
    (fun bb hb => by
      simp only [if_true] at hb
      refine ⟨(hI.base s bb hb).1, by rw [setRow_size]; exact (hI.base s bb hb).2, fun z hz => ?_, hI.nfb_own hb⟩
      split at hz
      · cases hz
      · rename_i hn; have := hI.inj z s bb hz hb; subst this; exact hn (by simp [hsr]))
    (by
      simp only [SR, if_true]
      rw [tmOf_ge (by omega)]
      simp only [if_true]
      exact hown) (.inr rfl)
  have h5' := h4'.put (O' := fun z => if z = t then some b else if z = GB + t then O s else if z ∈ t :: (GB + t) :: kk then none else O z) (t := t) (d := .gbox (GB + t)) (fun z hz => by simp [hz]) (by simp [upd, hne, GB_ne]) (fun z s1 h => by
      unfold upd at h
      split at h
      · cases h
      · exact (hna z s1 h).1)
    (fun b' hb => by
      simp at hb; subst hb
      refine ⟨(hI.base t _ q1).1, by rw [setRow_size]; exact hlt, fun z hz => ?_, hI.nfb_own q1⟩
      split at hz
      · exact hbs _ hz rfl
      · split at hz
        · cases hz
        · rename_i hn; exact hn (by rw [hI.inj z t _ hz q1]; simp))
    ⟨b, e, by simp, (tmOf_lt k2).trans q2, by rw [tmOf_ge (by omega)]; simp only [if_true]; exact setRow_heap w b arr _ e (0, 0) q3, q5, by omega, k2, rfl⟩ (.inl k2)
  exact ⟨_, _, _, h5'⟩

end Go.Pi

/-
  BOXES OF SEVERAL CELLS, SOME OF WHOSE FIELDS HOLD SLICES OF THE CALL'S OWN: such a field is a ghost slot (GF t i). Own work.
-/
namespace Go.Pi
open Go Go.RowKit

variable {P : Program} {n : Nz} {S0 S : Nat → Nat → Prop} {w0 w : World} {O : Nat → Option Nat} {g : G} {tm : Array Value} {o : Oper} {dst : Nat}

theorem GF_inj {t i s j : Nat} (ht : t < GB) (hs : s < GB) (h : GF t i = GF s j) : t = s ∧ i = j := by
  unfold GF at h
  have h1 : t = s := by
    have a : (GB * (i + 2) + t) % GB = t := by rw [Nat.mul_add_mod]; exact Nat.mod_eq_of_lt ht
    have b : (GB * (j + 2) + s) % GB = s := by rw [Nat.mul_add_mod]; exact Nat.mod_eq_of_lt hs
    rw [← a, ← b, h]
  subst h1
  refine ⟨rfl, ?_⟩
  have : GB * (i + 2) = GB * (j + 2) := by omega
  have := Nat.eq_of_mul_eq_mul_left (by unfold GB; omega) this
  omega
theorem GF_lt {t i s : Nat} (hs : s < GB) : s ≠ GF t i := by have := GF_ge t i; omega

/-- the cells of a box that may be written, as those of a box with ghost fields -/
theorem MCs.ofReps {f : Nat → Value} {t : Nat} {cs : List D} {vs : List Value} (h : Reps S w cs vs) (h1 : ∀ d ∈ cs, d.one = true) : MCs S w f t cs vs :=
  ⟨h.1, fun i d v hd hv => .inr ⟨h1 d (List.mem_of_getElem? hd), h.2 i d v hd hv⟩⟩

theorem Inv.boxM (hI : Inv P n S0 w0 S O g tm w) {t : Nat} {cs : List D} (h : boxCs (g t) = some cs) (htg : t < GB) :
    ∃ b arr e, O t = some b ∧ tm.getD t undef = .pointer (some ⟨b, 0, none⟩) ∧ w.heap[b]? = some (.cells arr e (0, 0)) ∧ (∀ j, ¬ S b j) ∧ MCs S w (tmOf n.gv tm) t cs arr.toList := by
  have hs := hI.slot t
  unfold boxCs at h
  split at h <;> try (cases h; done)
  · rename_i cs' hg
    cases h
    rw [hg] at hs
    obtain ⟨b, arr, e, q1, q2, q3, q4, _, q5⟩ := hs
    rw [tmOf_lt htg] at q2
    exact ⟨b, arr, e, q1, q2, q3, q4, q5⟩
  · rename_i cs' hg
    cases h
    rw [hg] at hs
    simp only [SR, OwnR] at hs
    obtain ⟨b, arr, e, q1, q2, q3, q4, q5, q6, _⟩ := hs
    rw [tmOf_lt htg] at q2
    exact ⟨b, arr, e, q1, q2, q3, (fun j hj => by cases (q6 j hj).1), MCs.ofReps q4 q5⟩

/-- an own slice goes into a field -/
theorem Inv.sgM (hI : Inv P n S0 w0 S O g tm w) {t i s : Nat} {cs : List D} {wr : Bool} {el m : Nat} {cs' : List D} {kk : List Nat} (hb : boxCs (g t) = some cs) (htg : t < GB) (hi : i < cs.length)
    (hs : s ∈ kk) {y : Value} (hown : OwnR P S w (O s) (.own wr el m cs') y) (hrd : ∀ z ∈ kk, z ≠ t ∧ z ≠ GF t i)
    (hal : ∀ z s1, aliasOf (g z) = some s1 → s1 ∈ t :: GF t i :: kk → z ∈ t :: GF t i :: kk) :
    ∃ b arr e, O t = some b ∧ tm.getD t undef = .pointer (some ⟨b, 0, none⟩) ∧ w.heap[b]? = some (.cells arr e (0, 0)) ∧ arr.size = cs.length ∧
      Good P n S0 w0 (upd (upd (fun z => if z ∈ t :: GF t i :: kk then D.un else g z) (GF t i) (.own wr el m cs')) t (.mbx (cs.set i (.al (GF t i))))) tm (w.setRow b (arr.toList.set i y).toArray) := by
  obtain ⟨b, arr, e, q1, q2, q3, q5, q6⟩ := hI.boxM hb htg
  refine ⟨b, arr, e, q1, q2, q3, by simpa using q6.1.symm, ?_⟩
  have hne : t ≠ GF t i := GF_lt htg
  have hst := hrd s hs
  have hna : ∀ z s1, aliasOf (if z ∈ t :: GF t i :: kk then D.un else g z) = some s1 → s1 ≠ t ∧ s1 ≠ GF t i := fun z s1 h => by
    split at h
    · cases h
    · rename_i hn
      exact ⟨fun e => hn (hal z s1 h (by simp [e])), fun e => hn (hal z s1 h (by simp [e]))⟩
  have h1 := hI.drops (t :: GF t i :: kk) hal
  have h2 := h1.setRowFree (arr' := (arr.toList.set i y).toArray) q3 (fun z hz => by
    split at hz
    · cases hz
    · rename_i hn; exact hn (by rw [hI.inj z t b hz q1]; simp)) q5 (hI.base t b q1).1 (hI.nfb_own q1)
  have hnoG : ∀ z, noG (GF t i) (if z ∈ t :: GF t i :: kk then D.un else g z) := fun z => by
    split
    · trivial
    · rename_i hn
      have hs := hI.slot z
      cases hg : g z <;> rw [hg] at hs <;> try trivial
      · obtain ⟨_, _, _, _, _, _, _, hz, h6⟩ := hs
        refine h6.noG fun j hj => ?_
        have := (GF_inj htg hz hj).1
        subst this
        simp at hn
      · obtain ⟨_, _, _, hz, h6⟩ := hs
        refine h6.noG fun j hj => ?_
        have := (GF_inj htg hz hj).1
        subst this
        simp at hn
  have h3 := h2.setGv (G := GF t i) y (GF_ge _ _) (by simp) (fun z s1 h => (hna z s1 h).2) (fun z hz => by
    split at hz
    · cases hz
    · have hs := hI.slot z
      rw [hz] at hs
      obtain ⟨_, _, _, _, _, _, _, hzl, he⟩ := hs
      exact GF_ne (t := t) (s := z) i hzl he.symm) hnoG
  have hlt : b < w.heap.size := (hI.base t b q1).2
  have hbs : ∀ bb, O s = some bb → bb ≠ b := fun bb h e => hst.1 (hI.inj s t b (e ▸ h) q1)
  have hown2 : OwnR P S (w.setRow b (arr.toList.set i y).toArray) (O s) (.own wr el m cs') y :=
    hown.grow (fun _ _ z => z) (fun _ _ _ z => z) (fun b' j hs => cell_setRow_other w b _ _ (fun z => q5 j (by simp at z; subst z; exact hs))) (fun bb h => setRow_other w b bb _ (hbs bb h))
  have h4 := h3.put (O' := fun z => if z = GF t i then O s else if z ∈ t :: GF t i :: kk then none else O z) (t := GF t i) (d := .own wr el m cs') (fun z hz => by simp [hz]) (by simp) (fun z s1 h => (hna z s1 h).2)
    (fun bb hb => by
      simp only [if_true] at hb
      refine ⟨(hI.base s bb hb).1, by rw [setRow_size]; exact (hI.base s bb hb).2, fun z hz => ?_, hI.nfb_own hb⟩
      split at hz
      · cases hz
      · rename_i hn; have := hI.inj z s bb hz hb; subst this; exact hn (by simp [hs]))
    (by
      simp only [SR, if_true]
      rw [tmOf_ge (GF_ge _ _)]
      simp only [if_true]
      exact hown2) (.inr rfl)
  have h5 := h4.put (O' := fun z => if z = t then some b else if z = GF t i then O s else if z ∈ t :: GF t i :: kk then none else O z) (t := t) (d := .mbx (cs.set i (.al (GF t i)))) (fun z hz => by simp [hz]) (by simp [upd, hne]) (fun z s1 h => by
      unfold upd at h
      split at h
      · cases h
      · exact (hna z s1 h).1)
    (fun b' hb => by
      simp at hb; subst hb
      refine ⟨(hI.base t _ q1).1, by rw [setRow_size]; exact hlt, fun z hz => ?_, hI.nfb_own q1⟩
      split at hz
      · exact hbs _ hz rfl
      · split at hz
        · cases hz
        · rename_i hn; exact hn (by rw [hI.inj z t _ hz q1]; simp))
    ⟨b, (arr.toList.set i y).toArray, e, by simp, (tmOf_lt htg).trans q2, setRow_heap w b arr _ e (0, 0) q3, q5, htg, by
      refine ⟨by simpa using q6.1, fun j d v hd hv => ?_⟩
      simp only [List.getElem?_set] at hd hv
      by_cases hj : i = j
      · subst hj
        have : i < arr.toList.length := by have := q6.1; omega
        simp only [if_true, hi, this] at hd hv
        cases hd
        cases hv
        exact .inl ⟨rfl, by rw [tmOf_ge (GF_ge _ _)]; simp⟩
      · simp only [if_neg hj] at hd hv
        rcases q6.2 j d v hd hv with ⟨a1, a2⟩ | ⟨a1, a2⟩
        · refine .inl ⟨a1, ?_⟩
          rw [a2, tmOf_ge (GF_ge _ _), tmOf_ge (GF_ge _ _)]
          show n.gv (GF t j) = if GF t j = GF t i then y else n.gv (GF t j)
          rw [if_neg]
          intro z
          exact hj ((GF_inj htg htg z).2).symm
        · exact .inr ⟨a1, a2.mono (fun _ _ z => z) (fun b' k hs => cell_setRow_other w b _ _ (fun z => q5 k (by simp at z; subst z; exact hs)))⟩⟩ (.inl htg)
  exact ⟨_, _, _, h5⟩
/-- the whole box is read: what its fields own is from now on not written -/
theorem Inv.ldM (hI : Inv P n S0 w0 S O g tm w) {t : Nat} {cs : List D} (hb : boxCs (g t) = some cs) (htg : t < GB) (ls : List Nat) (hls : ∀ s ∈ ls, s ≠ t)
    (hg : ∀ s, D.al s ∈ cs → s ∈ ls ∧ ∃ wr e m xs, g s = .own wr e m xs) :
    ∃ S' b arr e, Inv P n S0 w0 S' O (Pi.dullAll g ls) tm w ∧ (∀ b o, S b o → S' b o) ∧ tm.getD t undef = .pointer (some ⟨b, 0, none⟩) ∧ w.heap[b]? = some (.cells arr e (0, 0)) ∧ Rep S' w (.agg (cs.map (unM g))) (.agg arr) ∧ (∀ d ∈ cs.map (unM g), d.one = true) := by
  obtain ⟨b, arr, e, q1, q2, q3, q5, q6⟩ := hI.boxM hb htg
  obtain ⟨S', hI', hSS⟩ := hI.dullAll ls
  have key : ∀ (i : Nat) (d : D) (v : Value), cs[i]? = some d → arr.toList[i]? = some v → (unM g d).one = true ∧ Rep S' w (unM g d) v := by
    intro i d v hd hv
    rcases q6.2 i d v hd hv with ⟨rfl, rfl⟩ | ⟨a1, a2⟩
    · obtain ⟨h1, wr, el, m, xs, h2⟩ := hg _ (List.mem_of_getElem? hd)
      have hs := hI'.slot (GF t i)
      have e1 : Pi.dullAll g ls (GF t i) = .own false el m xs := by unfold Pi.dullAll; rw [if_pos h1, h2]; rfl
      rw [e1] at hs
      have e2 : unM g (.al (GF t i)) = .sl m xs := by show (g (GF t i)).plain = _; rw [h2]; rfl
      rw [e2]
      exact ⟨rfl, OwnR.rep hs⟩
    · have e2 : unM g d = d := by cases d <;> first | rfl | simp [D.one] at a1
      rw [e2]
      exact ⟨a1, a2.mono hSS (fun _ _ _ => rfl)⟩
  have h1 : ∀ d ∈ cs.map (unM g), d.one = true := by
    intro d hd
    obtain ⟨c, hc, rfl⟩ := List.mem_map.1 hd
    obtain ⟨i, hi, rfl⟩ := List.getElem_of_mem hc
    have hiv : i < arr.toList.length := by have := q6.1; omega
    exact (key i _ _ (List.getElem?_eq_getElem hi) (List.getElem?_eq_getElem hiv)).1
  refine ⟨S', b, arr, e, hI', hSS, q2, q3, ?_, h1⟩
  refine Rep.agg _ arr.toList (by rw [List.length_map]; exact q6.1) h1 fun i d v hd hv => ?_
  rw [List.getElem?_map, Option.map_eq_some_iff] at hd
  obtain ⟨c, hc, rfl⟩ := hd
  exact (key i c v hc hv).2
/-- a field is read -/
theorem Inv.lgM (hI : Inv P n S0 w0 S O g tm w) {t i : Nat} {cs : List D} (hb : boxCs (g t) = some cs) (htg : t < GB) {d : D} (hd : cs[i]? = some d) :
    ∃ b arr e v, tm.getD t undef = .pointer (some ⟨b, 0, none⟩) ∧ w.heap[b]? = some (.cells arr e (0, 0)) ∧ arr[i]? = some v ∧ ((d = .al (GF t i) ∧ v = tmOf n.gv tm (GF t i)) ∨ (d.one = true ∧ Rep S w d v)) := by
  obtain ⟨b, arr, e, q1, q2, q3, q5, q6⟩ := hI.boxM hb htg
  have hi : i < cs.length := (List.getElem?_eq_some_iff.1 hd).1
  have hiv : i < arr.toList.length := by have := q6.1; omega
  have hv : arr.toList[i]? = some arr.toList[i] := List.getElem?_eq_getElem hiv
  exact ⟨b, arr, e, _, q2, q3, by simp, q6.2 i d _ hd hv⟩

theorem sound_faM (t i : Nat) : Sound P (.faM t i) := by
  intro n S0 S w0 w O g tm o dst l hI hc hrd hdst hrun hal
  simp only [chkOp] at hc
  split at hc <;> try (cases hc; done)
  rename_i ty t' f hop
  simp only [Bool.and_eq_true, beq_iff_eq] at hc
  obtain ⟨rfl, h3⟩ := hc
  split at h3 <;> try (cases h3; done)
  rename_i fs hu
  split at h3 <;> try (cases h3; done)
  rename_i fl hf
  simp only [Bool.and_eq_true, beq_iff_eq] at h3
  obtain ⟨h3, h4⟩ := h3
  subst h3
  split at h4 <;> try (cases h4; done)
  rename_i ti hi
  have hs : ti.size ≠ 0 := by simpa using h4
  simp only [K.run] at hrun
  split at hrun <;> try (cases hrun; done)
  rename_i cs hb
  split at hrun <;> cases hrun
  rename_i hk
  obtain ⟨b, arr, e, q1, q2, q3, q5, q6⟩ := hI.boxM hb hk.2
  have hsd : t ≠ dst := fun e => hrd (by simp [K.reads, e])
  have h10 := hI.setRf (off := fl.offset) q1 hsd hdst (halD rfl hal)
  have e1 : rho tm (.tmp t) = .pointer (some ⟨b, 0, none⟩) := q2
  exact ⟨_, w, by simp [execOp, hop, e1, run_fieldAt hu hf hi hs], _, _, _, h10⟩
theorem sound_lgM (p t i : Nat) : Sound P (.lgM p t i) := by
  intro n S0 S w0 w O g tm o dst l hI hc hrd hdst hrun hal
  simp only [chkOp] at hc
  split at hc <;> try (cases hc; done)
  rename_i ty p' hop
  simp only [Bool.and_eq_true, beq_iff_eq] at hc
  obtain ⟨⟨⟨rfl, h2⟩, h3⟩, h4⟩ := hc
  simp only [K.run] at hrun
  split at hrun <;> try (cases hrun; done)
  rename_i s j cs hgp hb
  split at hrun <;> try (cases hrun; done)
  rename_i hk
  obtain ⟨rfl, rfl, k3, k4⟩ := hk
  have hp := hI.slot p
  rw [hgp] at hp
  obtain ⟨_, b', p1, p2⟩ := hp
  rw [tmOf_lt k4] at p2
  cases hd : cs[j]? with
  | none => rw [hd] at hrun; cases hrun
  | some d =>
    rw [hd] at hrun
    obtain ⟨b, arr, e, v, q2, q3, q4, q6⟩ := hI.lgM hb k3 hd
    obtain ⟨b2, _, _, r1, r2, _⟩ := hI.boxM hb k3
    have hbb : b' = b := by
      rw [r2] at q2
      have e1 : b2 = b := by cases q2; rfl
      have e2 : b' = b2 := by rw [p1] at r1; exact Option.some.inj r1
      rw [e2, e1]
    subst hbb
    have hld := run_loadVar (P := P) (w := w) (vs := [v]) (b := b') (off := j) h2 (by rw [h3]; rfl) h4 (fun jj u hj => by
      match jj with
      | 0 => simp at hj; subst hj; rw [cell_of_row w b' (j + 0) arr e (0, 0) q3]; simpa using q4
      | jj + 1 => simp at hj) (fun _ => rfl)
    have e1 : rho tm (.tmp p) = .pointer (some ⟨b', j, none⟩) := p2
    have hex : (execOp (rho tm) o).run P w = .ok (.value v) w := by simp [execOp, hop, e1, Instr.loadAt, Instr.sureAddr, hld]
    rcases q6 with ⟨rfl, rfl⟩ | ⟨a1, a2⟩
    · simp only [lgMr, if_true] at hrun
      cases hrun
      exact ⟨_, w, hex, _, _, _, hI.setAl rfl (fun e => by have := hI.nb; have := hdst.1; have := GF_ge s j; omega) hdst (fun t' s1 h1 h2 => by simpa [K.kills] using hal t' s1 h1 (by simpa [K.kills] using h2))⟩
    · have hr : l = [(dst, d)] := by
        cases d <;> simp only [lgMr] at hrun <;> first
          | (split at hrun <;> cases hrun; rfl)
          | (simp [D.one] at a1; done)
      subst hr
      exact hI.val hdst (by simpa [K.kills] using hal) a2 hex
theorem dulls_vs (g : G) : ∀ fs : List Nat, dulls g (fs.map PX.v) = fs.map fun s => (s, (g s).dull)
  | [] => rfl
  | a :: l => by
    show (a, (g a).dull) :: dulls g (l.map PX.v) = _
    rw [dulls_vs g l]; rfl
theorem slots_vs : ∀ fs : List Nat, (fs.map PX.v).filterMap PX.slot = fs
  | [] => rfl
  | a :: l => by
    show a :: (l.map PX.v).filterMap PX.slot = _
    rw [slots_vs l]
theorem sound_ldM (m t : Nat) (fs : List Nat) : Sound P (.ldM m t fs) := by
  intro n S0 S w0 w O g tm o dst l hI hc hrd hdst hrun hal
  simp only [chkOp] at hc
  split at hc <;> try (cases hc; done)
  rename_i ty t' hop
  simp only [Bool.and_eq_true, beq_iff_eq] at hc
  obtain ⟨⟨⟨rfl, h2⟩, h3⟩, h4⟩ := hc
  simp only [K.run] at hrun
  split at hrun <;> try (cases hrun; done)
  rename_i cs hb
  split at hrun <;> cases hrun
  rename_i hk
  obtain ⟨k1, k2, k3, k4⟩ := hk
  obtain ⟨S', b, arr, e, hI', hSS, q2, q3, hr, h1⟩ := hI.ldM hb k1 fs (fun s hs => by have := List.all_eq_true.1 k3 s hs; simpa using this) (fun s hs => by
    have := List.all_eq_true.1 k4 _ hs
    simp only [fldOk, Bool.and_eq_true, List.contains_iff_mem] at this
    refine ⟨this.1, ?_⟩
    have h2 := this.2
    cases hq : g s <;> rw [hq] at h2 <;> first | exact ⟨_, _, _, _, rfl⟩ | cases h2)
  have hl : arr.toList.length = cs.length := by
    cases hr with
    | agg ds vs hl _ _ => simpa using hl.symm
  have hld := run_loadVar (P := P) (w := w) (vs := arr.toList) (b := b) (off := 0) h2 (by rw [h3, hl, k2]) h4 (fun j v hj => by
    rw [cell_of_row w b (0 + j) arr e (0, 0) q3]; simpa using hj) (fun z => by cases z)
  have e1 : rho tm (.tmp t) = .pointer (some ⟨b, 0, none⟩) := q2
  have hex : (execOp (rho tm) o).run P w = .ok (.value (.agg arr)) w := by simp [execOp, hop, e1, Instr.loadAt, Instr.sureAddr, hld]
  have h6 := hI'.setPure hI'.extRefl (fun _ _ z => z) (fun _ _ z => .inl z) hr hdst (fun t' s1 z1 z2 => by
    rw [alias_dullAll] at z1
    exact halD rfl hal t' s1 z1 z2)
  have eg : upds g ((dst, .agg (cs.map (unM g))) :: fs.map fun s => (s, (g s).dull)) = upd (Pi.dullAll g fs) dst (.agg (cs.map (unM g))) := by
    have := upds_dst_dulls (g := g) (fs.map PX.v) dst (.agg (cs.map (unM g))) (by
      rw [slots_vs]; exact fun z => hrd (by simp [K.reads, z]))
    rw [slots_vs, dulls_vs] at this
    exact this
  rw [eg]
  exact ⟨_, w, hex, S', _, _, h6⟩

/-- one cell of a block gets a value -/
theorem exec_storeAt {p b i : Nat} {ty e : TypeId} {y : Operand} {arr : Array Value} (hop : o.op = .store ty (.tmp p) y) (h3 : P.cellsOf ty = 1) (h4 : (P.info? ty).isSome = true)
    (q2 : tm.getD p undef = .pointer (some ⟨b, i, none⟩)) (q3 : w.heap[b]? = some (.cells arr e (0, 0))) (q4 : i < arr.size) (h1 : (rho tm y).oneCell' = true) (hc : (rho tm y).cells = #[rho tm y]) :
    (execOp (rho tm) o).run P w = .ok .skip (w.setRow b (arr.toList.set i (rho tm y)).toArray) := by
  have hex := run_storeCells_at P b i e (rho tm y).cells.toList 0 arr w q3 (by rw [hc]; simp; omega) (fun u hu => by rw [hc] at hu; simp at hu; rw [hu]; exact h1)
  have e1 : rho tm (.tmp p) = .pointer (some ⟨b, i, none⟩) := q2
  simp only [Nat.add_zero] at hex
  have hr : (arr.toList.take i ++ (rho tm y).cells.toList ++ arr.toList.drop (i + (rho tm y).cells.toList.length)).toArray = (arr.toList.set i (rho tm y)).toArray := by
    rw [hc]
    congr 1
    rw [List.set_eq_take_append_cons_drop, if_pos (by simpa using q4)]
    simp
  rw [hr] at hex
  have hsv : (storeVar ty ⟨b, i, none⟩ (rho tm y)).run P w = .ok () (w.setRow b (arr.toList.set i (rho tm y)).toArray) := by
    unfold storeVar
    rw [Sem.run_bind, run_sizeOf h4]
    simp only [Result.andThen_ok]
    rw [if_neg (by rw [h3, hc]; simp)]
    simp [hex]
  simp [execOp, hop, e1, Instr.storeAt, Instr.sureAddr, hsv]
/-- the slots t, GF t i and those of l, written in this order -/
theorem upds_boxM {t i : Nat} {l : List Nat} (g : G) (a b : D) (htg : t < GB) (h : ∀ z ∈ l, z ≠ t ∧ z ≠ GF t i) :
    upds g ((t, a) :: (GF t i, b) :: l.map fun z => (z, .un)) = upd (upd (fun z => if z ∈ t :: GF t i :: l then D.un else g z) (GF t i) b) t a := by
  have hne : t ≠ GF t i := GF_lt htg
  show upds (upd (upd g t a) (GF t i) b) (l.map fun z => (z, .un)) = _
  rw [upds_un]
  funext z
  by_cases h1 : z ∈ l
  · obtain ⟨h2, h3⟩ := h z h1
    simp [h1, h2, h3, upd]
  · by_cases h2 : z = t
    · subst h2; simp [h1, upd, hne]
    · by_cases h3 : z = GF t i
      · subst h3; simp [h1, upd, h2]
      · simp [h1, h2, h3, upd]
theorem sound_sgM {p t i : Nat} {v : PX} {ks : List Nat} {l : List (Nat × D)} (hI : Inv P n S0 w0 S O g tm w) (hc : chkOp P o (.sgM p t i v ks) = true) (hrun : (K.sgM p t i v ks).run dst g = some l)
    (hal : ∀ z s, aliasOf (g z) = some s → s ∈ (K.sgM p t i v ks).kills dst → z ∈ (K.sgM p t i v ks).kills dst) : ∃ w', (execOp (rho tm) o).run P w = .ok .skip w' ∧ Good P n S0 w0 (upds g l) tm w' := by
  simp only [chkOp] at hc
  split at hc <;> try (cases hc; done)
  rename_i ty p' y hop
  simp only [Bool.and_eq_true, beq_iff_eq] at hc
  obtain ⟨⟨⟨rfl, hx⟩, h3⟩, h4⟩ := hc
  simp only [K.run] at hrun
  split at hrun <;> try (cases hrun; done)
  rename_i s0 j cs s wr el m cs' hgp hb hs hev
  split at hrun <;> cases hrun
  rename_i hk
  obtain ⟨rfl, rfl, k3, k4, k5, k6⟩ := hk
  have hrd : ∀ z ∈ p :: (v.reads ++ ks), z ≠ s0 ∧ z ≠ GF s0 j := fun z hz => by
    have := List.all_eq_true.1 k6 z hz
    simpa using this
  obtain ⟨s', r1, r2, r3⟩ := hI.opndOwn hx (by rw [hev]; rfl)
  rw [hs] at r1; cases r1
  rw [hev] at r2 r3
  obtain ⟨a0, c0, hv⟩ := r3.slice
  have hsr : s ∈ p :: (v.reads ++ ks) := List.mem_cons_of_mem _ (List.mem_append_left _ (PX.slot_reads hs))
  simp only [K.kills] at hal
  obtain ⟨b, arr, e, q1, q2, q3, q4, q5⟩ := hI.sgM (i := j) hb k3 k5 hsr r3 hrd hal
  have hp := hI.slot p
  rw [hgp] at hp
  obtain ⟨_, b', p1, p2⟩ := hp
  rw [tmOf_lt k4] at p2
  have hbb : b' = b := by rw [p1] at q1; exact Option.some.inj q1
  subst hbb
  refine ⟨_, exec_storeAt hop h3 h4 p2 q3 (by omega) (by rw [hv]; rfl) (by rw [hv]; rfl), ?_⟩
  rw [upds_boxM g _ _ k3 hrd]
  exact q5
end Go.Pi

/-
  STRUCTS OF TWO SLICES OF THE CALL'S OWN, built and stored as a whole; a field that is read as plain data. Own work.
-/
namespace Go.Pi
open Go Go.RowKit

variable {P : Program} {n : Nz} {S0 S : Nat → Nat → Prop} {w0 w : World} {O : Nat → Option Nat} {g : G} {tm : Array Value} {o : Oper} {dst : Nat}

/-- a ghost slot gets what is owned -/
theorem Inv.putGh (h : Inv P n S0 w0 S O g tm w) {G : Nat} {ob : Option Nat} {wr : Bool} {e m : Nat} {cs : List D} {y : Value} (hG : GB ≤ G) (hu : g G = .un) (hal : ∀ t s, aliasOf (g t) = some s → s ≠ G)
    (hb : ∀ t, g t ≠ .gbox G) (hm : ∀ t, noG G (g t)) (hown : OwnR P S w ob (.own wr e m cs) y) (hfresh : ∀ b, ob = some b → w0.heap.size ≤ b ∧ b < w.heap.size ∧ (∀ t', O t' ≠ some b) ∧ ¬ n.fb b) :
    Inv P { n with gv := fun z => if z = G then y else n.gv z } S0 w0 S (fun z => if z = G then ob else O z) (upd g G (.own wr e m cs)) tm w :=
  (h.setGv y hG hu hal hb hm).put (O' := fun z => if z = G then ob else O z) (t := G) (d := .own wr e m cs) (fun z hz => by simp [hz]) hu hal (fun b hb => hfresh b (by simpa using hb))
    (by simp only [SR, if_true]; rw [tmOf_ge hG]; simp only [if_true]; exact hown) (.inr rfl)
/-- nothing but slot s itself speaks of its ghost slots -/
theorem Inv.ghFree (h : Inv P n S0 w0 S O g tm w) {s : Nat} (i : Nat) (hs : s < GB) (hu : ∀ cs, g s ≠ .mbx cs ∧ g s ≠ .mag cs) : (∀ t, g t ≠ .gbox (GF s i)) ∧ ∀ t, noG (GF s i) (g t) := by
  refine ⟨fun t ht => ?_, fun t => ?_⟩
  · have hs := h.slot t
    rw [ht] at hs
    obtain ⟨_, _, _, _, _, _, _, hz, he⟩ := hs
    exact GF_ne i hz he.symm
  · have hst := h.slot t
    cases hg : g t <;> rw [hg] at hst <;> try trivial
    · obtain ⟨_, _, _, _, _, _, _, hz, h6⟩ := hst
      refine h6.noG fun j hj => ?_
      have := (GF_inj hs hz hj).1
      subst this
      exact (hu _).1 hg
    · obtain ⟨_, _, _, hz, h6⟩ := hst
      refine h6.noG fun j hj => ?_
      have := (GF_inj hs hz hj).1
      subst this
      exact (hu _).2 hg
theorem alias_own {g : G} {G : Nat} {wr : Bool} {e m : Nat} {cs : List D} {z : Nat} (h : ∀ t s, aliasOf (g t) = some s → s ≠ z) : ∀ t s, aliasOf (upd g G (.own wr e m cs) t) = some s → s ≠ z := fun t s ht => by
  unfold upd at ht
  split at ht
  · cases ht
  · exact h t s ht
theorem gbox_own {g : G} {G : Nat} {wr : Bool} {e m : Nat} {cs : List D} {z : Nat} (h : ∀ t, g t ≠ .gbox z) : ∀ t, upd g G (.own wr e m cs) t ≠ .gbox z := fun t ht => by
  unfold upd at ht
  split at ht
  · cases ht
  · exact h t ht
theorem noG_own {g : G} {G : Nat} {wr : Bool} {e m : Nat} {cs : List D} {z : Nat} (h : ∀ t, noG z (g t)) : ∀ t, noG z (upd g G (.own wr e m cs) t) := fun t => by
  unfold upd
  split
  · trivial
  · exact h t

theorem sound_lgD (p t i : Nat) : Sound P (.lgD p t i) := by
  intro n S0 S w0 w O g tm o dst l hI hc hrd hdst hrun hal
  simp only [chkOp] at hc
  split at hc <;> try (cases hc; done)
  rename_i ty p' hop
  simp only [Bool.and_eq_true, beq_iff_eq] at hc
  obtain ⟨⟨⟨rfl, h2⟩, h3⟩, h4⟩ := hc
  simp only [K.run] at hrun
  split at hrun <;> try (cases hrun; done)
  rename_i s j cs wr el m xs hgp hb hgG
  split at hrun <;> cases hrun
  rename_i hk
  obtain ⟨rfl, rfl, k3, k4, k5⟩ := hk
  have hd : cs[j]? = some (.al (GF s j)) := by
    cases hq : cs[j]? with
    | none => rw [hq] at k5; cases k5
    | some d =>
      rw [hq] at k5
      cases d <;> simp only [isAlO] at k5 <;> first | (cases k5; done) | (rw [beq_iff_eq] at k5; rw [k5])
  have hp := hI.slot p
  rw [hgp] at hp
  obtain ⟨_, b', p1, p2⟩ := hp
  rw [tmOf_lt k4] at p2
  obtain ⟨b, arr, e, v, q2, q3, q4, q6⟩ := hI.lgM hb k3 hd
  obtain ⟨b2, _, _, r1, r2, _⟩ := hI.boxM hb k3
  have hbb : b' = b := by
    rw [r2] at q2
    have e1 : b2 = b := by cases q2; rfl
    have e2 : b' = b2 := by rw [p1] at r1; exact Option.some.inj r1
    rw [e2, e1]
  subst hbb
  have hld := run_loadVar (P := P) (w := w) (vs := [v]) (b := b') (off := j) h2 (by rw [h3]; rfl) h4 (fun jj u hj => by
    match jj with
    | 0 => simp at hj; subst hj; rw [cell_of_row w b' (j + 0) arr e (0, 0) q3]; simpa using q4
    | jj + 1 => simp at hj) (fun _ => rfl)
  have e1 : rho tm (.tmp p) = .pointer (some ⟨b', j, none⟩) := p2
  have hex : (execOp (rho tm) o).run P w = .ok (.value v) w := by simp [execOp, hop, e1, Instr.loadAt, Instr.sureAddr, hld]
  obtain ⟨S', hI', hSS⟩ := hI.dullAll [GF s j]
  have hv : v = tmOf n.gv tm (GF s j) := by
    rcases q6 with ⟨_, z⟩ | ⟨z, _⟩
    · exact z
    · cases z
  have hs := hI'.slot (GF s j)
  have e2 : Pi.dullAll g [GF s j] (GF s j) = .own false el m xs := by unfold Pi.dullAll; rw [if_pos (by simp), hgG]; rfl
  rw [e2] at hs
  have hr : Rep S' w (.sl m xs) v := by rw [hv]; exact OwnR.rep hs
  have h6 := hI'.setPure hI'.extRefl (fun _ _ z => z) (fun _ _ z => .inl z) hr hdst (fun t' s1 z1 z2 => by
    rw [alias_dullAll] at z1
    exact halD rfl hal t' s1 z1 z2)
  have eg : upds g [(dst, .sl m xs), (GF s j, .own false el m xs)] = upd (Pi.dullAll g [GF s j]) dst (.sl m xs) := by
    have hne : dst ≠ GF s j := by have := hI.has hdst; exact GF_lt this
    funext z
    simp only [upds, upd, Pi.dullAll, List.mem_singleton]
    by_cases z1 : z = GF s j
    · subst z1
      rw [if_pos rfl, if_neg (Ne.symm hne), if_pos rfl, hgG]; rfl
    · simp only [if_neg z1]
  rw [eg]
  exact ⟨_, w, hex, S', _, _, h6⟩

theorem sound_bldQ (a b : Nat) : Sound P (.bldQ a b) := by
  intro n S0 S w0 w O g tm o dst l hI hc hrd hdst hrun hal
  simp only [chkOp] at hc
  split at hc <;> try (cases hc; done)
  rename_i t parts hop
  simp only [Bool.and_eq_true] at hc
  obtain ⟨hz, hc⟩ := hc
  obtain ⟨i, v, hi, hv, hz, h3, h4, h5⟩ := zeroOk_spec hz
  split at hc <;> try (cases hc; done)
  rename_i fs hu
  simp only [Bool.and_eq_true] at hc
  obtain ⟨hc1, hc2⟩ := hc
  simp only [K.run] at hrun
  split at hrun <;> try (cases hrun; done)
  rename_i w1 e1 n1 c1 w2 e2 n2 c2 hga hgb
  split at hrun <;> cases hrun
  rename_i hk
  obtain ⟨k1, k2, k3⟩ := hk
  have hdl := hI.has hdst
  have hA := hI.slot a
  rw [hga] at hA
  simp only [SR] at hA
  rw [tmOf_lt k2] at hA
  have hB := hI.slot b
  rw [hgb] at hB
  simp only [SR] at hB
  rw [tmOf_lt k3] at hB
  generalize hVa : tm.getD a undef = va at hA
  generalize hVb : tm.getD b undef = vb at hB
  have ca1 : va.cells = #[va] := by obtain ⟨a0, ca, hva⟩ := hA.slice; rw [hva]; rfl
  have cb1 : vb.cells = #[vb] := by obtain ⟨b0, cb, hvb⟩ := hB.slice; rw [hvb]; rfl
  -- the operation
  have hex : (execOp (rho tm) o).run P w = .ok (.value (.agg #[va, vb])) w := by
    obtain ⟨parts⟩ := parts
    match parts, hc1 with
    | [(i1, y1), (i2, y2)], hc1 =>
      simp only [chkParts, Bool.and_eq_true, beq_iff_eq, and_true] at hc1
      obtain ⟨⟨p1, p2⟩, ⟨p3, p4⟩⟩ := hc1
      have ey1 : rho tm y1 = va := by
        cases y1 <;> simp [chkX] at p2
        obtain ⟨rfl, _⟩ := p2; exact hVa
      have ey2 : rho tm y2 = vb := by
        cases y2 <;> simp [chkX] at p4
        obtain ⟨rfl, _⟩ := p4; exact hVb
      have hp := run_struct_places (P := P) (w := w) fs hc2
      have hv2 : ∃ x y, v.cells = #[x, y] := by
        have : v.cells.size = 2 := h5
        match hq : v.cells.toList, (by simpa using this : v.cells.toList.length = 2) with
        | [x, y], _ => exact ⟨x, y, by apply Array.ext'; simp [hq]⟩
      obtain ⟨x, y, hxy⟩ := hv2
      simp [execOp, hop, Instr.build, run_underlying hu, zeroValue, typeInfo, hi, hv, hp]
      simp [Instr.fill, p1, p3, ey1, ey2, ca1, cb1, hxy]
    | [], hc1 => simp [chkParts] at hc1
    | [_], hc1 => simp [chkParts] at hc1
    | _ :: _ :: _ :: _, hc1 => simp [chkParts] at hc1
  refine ⟨_, w, hex, ?_⟩
  simp only [K.kills] at hal
  generalize hks : [dst, GF dst 0, GF dst 1, a, b] = ks at hal
  have mem : ∀ z, z ∈ ks ↔ z = dst ∨ z = GF dst 0 ∨ z = GF dst 1 ∨ z = a ∨ z = b := fun z => by rw [← hks]; simp
  have h1 := hI.drops ks hal
  have hna : ∀ z s1, aliasOf (if z ∈ ks then D.un else g z) = some s1 → s1 ∉ ks := fun z s1 h => by
    split at h
    · cases h
    · rename_i hn; exact fun e => hn (hal z s1 h e)
  have h2 := h1.touch (t := dst) (.agg #[va, vb]) hdst.2 (by simp [mem]) (fun z s1 h e => hna z s1 h (by simp [mem, e]))
  have hne01 : GF dst 0 ≠ GF dst 1 := fun e => by cases (GF_inj hdl hdl e).2
  have hd0 : dst ≠ GF dst 0 := GF_lt hdl
  have hd1 : dst ≠ GF dst 1 := GF_lt hdl
  have hgone : ∀ cs, (if dst ∈ ks then D.un else g dst) ≠ .mbx cs ∧ (if dst ∈ ks then D.un else g dst) ≠ .mag cs := fun cs => by simp [mem]
  obtain ⟨f1, f2⟩ := h2.ghFree 0 hdl hgone
  obtain ⟨f3, f4⟩ := h2.ghFree 1 hdl hgone
  have had : a ≠ dst := fun e => hrd (by simp [K.reads, e])
  have hbd : b ≠ dst := fun e => hrd (by simp [K.reads, e])
  have hAo : ∀ bb, O a = some bb → w0.heap.size ≤ bb ∧ bb < w.heap.size ∧ (∀ t', (if t' ∈ ks then none else O t') ≠ some bb) ∧ ¬ n.fb bb := fun bb hb => by
    refine ⟨(hI.base a bb hb).1, (hI.base a bb hb).2, fun z hz => ?_, hI.nfb_own hb⟩
    split at hz
    · cases hz
    · rename_i hn; have := hI.inj z a bb hz hb; subst this; exact hn (by simp [mem])
  have h3 := h2.putGh (G := GF dst 0) (ob := O a) (wr := w1) (e := e1) (m := n1) (cs := c1) (y := va) (GF_ge _ _) (by simp [mem]) (fun z s1 h e => hna z s1 h (by simp [mem, e])) f1 f2 hA hAo
  have h4 := h3.putGh (G := GF dst 1) (ob := O b) (wr := w2) (e := e2) (m := n2) (cs := c2) (y := vb) (GF_ge _ _) (by simp [upd, mem, Ne.symm hne01]) (alias_own fun z s1 h e => hna z s1 h (by simp [mem, e])) (gbox_own f3) (noG_own f4) hB
    (fun bb hb => by
      refine ⟨(hI.base b bb hb).1, (hI.base b bb hb).2, fun z hz => ?_, hI.nfb_own hb⟩
      split at hz
      · exact k1 (hI.inj a b bb hz hb)
      · split at hz
        · cases hz
        · rename_i hn; have := hI.inj z b bb hz hb; subst this; exact hn (by simp [mem]))
  have h5 := h4.put (O' := fun z => if z = dst then none else if z = GF dst 1 then O b else if z = GF dst 0 then O a else if z ∈ ks then none else O z) (t := dst) (d := .mag [.al (GF dst 0), .al (GF dst 1)]) (fun z hz => by simp [hz])
    (by simp [upd, mem, hd0, hd1]) (alias_own (alias_own fun z s1 h e => hna z s1 h (by simp [mem, e]))) (fun bb hb => by simp at hb)
    (by
      refine ⟨by simp, [va, vb], ?_, hdl, rfl, fun j d u hd hu => ?_⟩
      · rw [tmOf_lt hdl]
        have : dst < tm.size := by rw [hI.size]; exact hdst.1
        simp [this]
      · match j with
        | 0 =>
          simp at hd hu
          subst hd; subst hu
          exact .inl ⟨rfl, by rw [tmOf_ge (GF_ge _ _)]; simp [hne01]⟩
        | 1 =>
          simp at hd hu
          subst hd; subst hu
          exact .inl ⟨rfl, by rw [tmOf_ge (GF_ge _ _)]; simp⟩
        | j + 2 => simp at hd) (.inl hdl)
  have eg : upds g [(dst, .mag [.al (GF dst 0), .al (GF dst 1)]), (GF dst 0, .own w1 e1 n1 c1), (GF dst 1, .own w2 e2 n2 c2), (a, .un), (b, .un)] =
      upd (upd (upd (fun z => if z ∈ ks then D.un else g z) (GF dst 0) (.own w1 e1 n1 c1)) (GF dst 1) (.own w2 e2 n2 c2)) dst (.mag [.al (GF dst 0), .al (GF dst 1)]) := by
    have ha0 : a ≠ GF dst 0 := GF_lt k2
    have ha1 : a ≠ GF dst 1 := GF_lt k2
    have hb0 : b ≠ GF dst 0 := GF_lt k3
    have hb1 : b ≠ GF dst 1 := GF_lt k3
    funext z
    simp only [upds, upd]
    by_cases z1 : z = b
    · subst z1; simp [mem, hbd, hb0, hb1]
    · by_cases z2 : z = a
      · subst z2; simp [mem, had, ha0, ha1, z1]
      · by_cases z3 : z = dst
        · subst z3; simp [z1, z2, hd0, hd1]
        · by_cases z4 : z = GF dst 1
          · subst z4; simp [z1, z2, z3]
          · by_cases z5 : z = GF dst 0
            · subst z5; simp [z1, z2, z3, z4]
            · simp [z1, z2, z3, z4, z5, mem]
  rw [eg]
  exact ⟨_, _, _, h5⟩

theorem sound_stQ {t z : Nat} {l : List (Nat × D)} (hI : Inv P n S0 w0 S O g tm w) (hc : chkOp P o (.stQ t z) = true) (hrun : (K.stQ t z).run dst g = some l)
    (hal : ∀ y s, aliasOf (g y) = some s → s ∈ (K.stQ t z).kills dst → y ∈ (K.stQ t z).kills dst) : ∃ w', (execOp (rho tm) o).run P w = .ok .skip w' ∧ Good P n S0 w0 (upds g l) tm w' := by
  simp only [chkOp] at hc
  split at hc <;> try (cases hc; done)
  rename_i ty t' z' hop
  simp only [Bool.and_eq_true, beq_iff_eq] at hc
  obtain ⟨⟨⟨rfl, rfl⟩, h3⟩, h4⟩ := hc
  simp only [K.run] at hrun
  split at hrun <;> try (cases hrun; done)
  rename_i x0 x1 G0 G1 w1 e1 n1 c1 w2 e2 n2 c2 hgt hgz hg0 hg1
  split at hrun <;> cases hrun
  rename_i hk
  obtain ⟨k1, k2, k3, rfl, rfl⟩ := hk
  obtain ⟨b, arr, e, q1, q2, q3, q5, q6⟩ := hI.boxM (cs := [x0, x1]) (by rw [hgt]; rfl) k1
  have hZ := hI.slot z
  rw [hgz] at hZ
  obtain ⟨_, vs, m1, _, m2, m3⟩ := hZ
  rw [tmOf_lt k2] at m1
  have hA := hI.slot (GF z 0)
  rw [hg0] at hA
  simp only [SR] at hA
  have hB := hI.slot (GF z 1)
  rw [hg1] at hB
  simp only [SR] at hB
  obtain ⟨va, vb, rfl⟩ : ∃ va vb, vs = [va, vb] := by
    match vs, m2 with
    | [x, y], _ => exact ⟨x, y, rfl⟩
  have eva : va = tmOf n.gv tm (GF z 0) := by
    rcases m3 0 _ va rfl rfl with ⟨_, h⟩ | ⟨h, _⟩
    · exact h
    · cases h
  have evb : vb = tmOf n.gv tm (GF z 1) := by
    rcases m3 1 _ vb rfl rfl with ⟨_, h⟩ | ⟨h, _⟩
    · exact h
    · cases h
  rw [← eva] at hA
  rw [← evb] at hB
  obtain ⟨a0, ca, hva⟩ := hA.slice
  obtain ⟨b0, cb, hvb⟩ := hB.slice
  have hsz : arr.size = 2 := by have := q6.1; simpa using this.symm
  have hex : (execOp (rho tm) o).run P w = .ok .skip (w.setRow b #[va, vb]) := by
    have hr := run_storeCells_at P b 0 e [va, vb] 0 arr w q3 (by simp [hsz]) (fun u hu => by
      simp only [List.mem_cons, List.not_mem_nil, or_false] at hu
      rcases hu with rfl | rfl
      · rw [hva]; rfl
      · rw [hvb]; rfl)
    have hr2 : (arr.toList.take (0 + 0) ++ [va, vb] ++ arr.toList.drop (0 + 0 + [va, vb].length)).toArray = #[va, vb] := by
      have : arr.toList.drop 2 = [] := List.drop_eq_nil_of_le (by simp [hsz])
      simp [this]
    rw [hr2] at hr
    have e1 : rho tm (.tmp t) = .pointer (some ⟨b, 0, none⟩) := q2
    have e2 : rho tm (.tmp z) = .agg #[va, vb] := m1
    have hsv : (storeVar ty ⟨b, 0, none⟩ (.agg #[va, vb])).run P w = .ok () (w.setRow b #[va, vb]) := by
      unfold storeVar
      rw [Sem.run_bind, run_sizeOf h4]
      simp only [Result.andThen_ok]
      rw [if_neg (by rw [h3]; simp [Value.cells])]
      simpa [Value.cells] using hr
    simp [execOp, hop, e1, e2, Instr.storeAt, Instr.sureAddr, hsv]
  refine ⟨_, hex, ?_⟩
  simp only [K.kills] at hal
  generalize hks : [t, GF t 0, GF t 1, z, GF z 0, GF z 1] = ks at hal
  have mem : ∀ y, y ∈ ks ↔ y = t ∨ y = GF t 0 ∨ y = GF t 1 ∨ y = z ∨ y = GF z 0 ∨ y = GF z 1 := fun y => by rw [← hks]; simp
  have h1 := hI.drops ks hal
  have hna : ∀ y s1, aliasOf (if y ∈ ks then D.un else g y) = some s1 → s1 ∉ ks := fun y s1 h => by
    split at h
    · cases h
    · rename_i hn; exact fun e => hn (hal y s1 h e)
  have hfree : ∀ s ∈ ks, ∀ bb, O s = some bb → ∀ y, (if y ∈ ks then none else O y) ≠ some bb := fun s hs bb hb y hy => by
    split at hy
    · cases hy
    · rename_i hn; have := hI.inj y s bb hy hb; subst this; exact hn hs
  have h2 := h1.setRowFree (arr' := #[va, vb]) q3 (hfree t (by simp [mem]) b q1) q5 (hI.base t b q1).1 (hI.nfb_own q1)
  have hlt : b < w.heap.size := (hI.base t b q1).2
  have hgr : ∀ {s : Nat} {wr : Bool} {e m : Nat} {cs : List D} {y : Value}, s ≠ t → OwnR P S w (O s) (.own wr e m cs) y → OwnR P S (w.setRow b #[va, vb]) (O s) (.own wr e m cs) y := fun {s} _ _ _ _ _ hst h =>
    h.grow (fun _ _ z => z) (fun _ _ _ z => z) (fun b' j hs => cell_setRow_other w b _ _ (fun z => q5 j (by simp at z; subst z; exact hs))) (fun bb h => setRow_other w b bb _ (fun e => hst (hI.inj s t b (e ▸ h) q1)))
  have hz0 : GF z 0 ≠ t := Ne.symm (GF_lt k1)
  have hz1 : GF z 1 ≠ t := Ne.symm (GF_lt k1)
  have hne01 : GF t 0 ≠ GF t 1 := fun e => by cases (GF_inj k1 k1 e).2
  have hnz01 : GF z 0 ≠ GF z 1 := fun e => by cases (GF_inj k2 k2 e).2
  have htz : ∀ i j, GF t i ≠ GF z j := fun i j e => k3 (GF_inj k1 k2 e).1
  have ht0 : t ≠ GF t 0 := GF_lt k1
  have ht1 : t ≠ GF t 1 := GF_lt k1
  have hgone : ∀ cs, (if t ∈ ks then D.un else g t) ≠ .mbx cs ∧ (if t ∈ ks then D.un else g t) ≠ .mag cs := fun cs => by simp [mem]
  obtain ⟨f1, f2⟩ := h2.ghFree 0 k1 hgone
  obtain ⟨f3, f4⟩ := h2.ghFree 1 k1 hgone
  have h3 := h2.putGh (G := GF t 0) (ob := O (GF z 0)) (wr := w1) (e := e1) (m := n1) (cs := c1) (y := va) (GF_ge _ _) (by simp [mem]) (fun y s1 h e => hna y s1 h (by simp [mem, e])) f1 f2 (hgr hz0 hA)
    (fun bb hb => ⟨(hI.base _ bb hb).1, by rw [setRow_size]; exact (hI.base _ bb hb).2, hfree (GF z 0) (by simp [mem]) bb hb, hI.nfb_own hb⟩)
  have h4 := h3.putGh (G := GF t 1) (ob := O (GF z 1)) (wr := w2) (e := e2) (m := n2) (cs := c2) (y := vb) (GF_ge _ _) (by simp [upd, mem, Ne.symm hne01]) (alias_own fun y s1 h e => hna y s1 h (by simp [mem, e])) (gbox_own f3) (noG_own f4) (hgr hz1 hB)
    (fun bb hb => by
      refine ⟨(hI.base _ bb hb).1, by rw [setRow_size]; exact (hI.base _ bb hb).2, fun y hy => ?_, hI.nfb_own hb⟩
      split at hy
      · exact hnz01 (hI.inj _ _ bb hy hb)
      · exact hfree (GF z 1) (by simp [mem]) bb hb y hy)
  have h5 := h4.put (O' := fun y => if y = t then some b else if y = GF t 1 then O (GF z 1) else if y = GF t 0 then O (GF z 0) else if y ∈ ks then none else O y) (t := t) (d := .mbx [.al (GF t 0), .al (GF t 1)]) (fun y hy => by simp [hy])
    (by simp [upd, mem, ht0, ht1]) (alias_own (alias_own fun y s1 h e => hna y s1 h (by simp [mem, e]))) (fun bb hb => by
      simp at hb
      subst hb
      refine ⟨(hI.base t _ q1).1, by rw [setRow_size]; exact hlt, fun y hy => ?_, hI.nfb_own q1⟩
      split at hy
      · exact hz1 (hI.inj _ _ _ hy q1)
      · split at hy
        · exact hz0 (hI.inj _ _ _ hy q1)
        · exact hfree t (by simp [mem]) _ q1 y hy)
    (by
      refine ⟨b, #[va, vb], e, by simp, (tmOf_lt k1).trans q2, setRow_heap w b arr _ e (0, 0) q3, q5, k1, rfl, fun j d u hd hu => ?_⟩
      match j with
      | 0 =>
        simp at hd hu
        subst hd; subst hu
        exact .inl ⟨rfl, by rw [tmOf_ge (GF_ge _ _)]; simp [hne01]⟩
      | 1 =>
        simp at hd hu
        subst hd; subst hu
        exact .inl ⟨rfl, by rw [tmOf_ge (GF_ge _ _)]; simp⟩
      | j + 2 => simp at hd) (.inl k1)
  have eg : upds g [(t, .mbx [.al (GF t 0), .al (GF t 1)]), (GF t 0, .own w1 e1 n1 c1), (GF t 1, .own w2 e2 n2 c2), (z, .un), (GF z 0, .un), (GF z 1, .un)] =
      upd (upd (upd (fun y => if y ∈ ks then D.un else g y) (GF t 0) (.own w1 e1 n1 c1)) (GF t 1) (.own w2 e2 n2 c2)) t (.mbx [.al (GF t 0), .al (GF t 1)]) := by
    have hzt0 : z ≠ GF t 0 := GF_lt k2
    have hzt1 : z ≠ GF t 1 := GF_lt k2
    have hzz0 : z ≠ GF z 0 := GF_lt k2
    have hzz1 : z ≠ GF z 1 := GF_lt k2
    funext y
    simp only [upds, upd]
    by_cases y1 : y = GF z 1
    · subst y1; simp [mem, hz1, Ne.symm (htz 0 1), Ne.symm (htz 1 1)]
    · by_cases y2 : y = GF z 0
      · subst y2; simp [mem, hz0, hnz01, Ne.symm (htz 0 0), Ne.symm (htz 1 0)]
      · by_cases y3 : y = z
        · subst y3; simp [mem, y1, y2, Ne.symm k3, hzt0, hzt1]
        · by_cases y4 : y = t
          · subst y4; simp [y1, y2, y3, ht0, ht1]
          · by_cases y5 : y = GF t 1
            · subst y5; simp [y1, y2, y3, y4]
            · by_cases y6 : y = GF t 0
              · subst y6; simp [y1, y2, y3, y4, y5]
              · simp [y1, y2, y3, y4, y5, y6, mem]
  rw [eg]
  exact ⟨_, _, _, h5⟩
end Go.Pi

/-
  CALLS: what a contract says; one operation of a region. Own work.
-/
namespace Go.Pi
open Go Go.RowKit

variable {P : Program} {n : Nz} {S0 S : Nat → Nat → Prop} {w0 w : World} {O : Nat → Option Nat} {g : G} {tm : Array Value} {o : Oper} {dst : Nat}

/-- a result: plain data, or a slice that the caller may go on to append to -/
def Res (P : Program) (S : Nat → Nat → Prop) (w w' : World) (r : D) (v : Value) : Prop :=
  match r with
  | .own wr e m cs => ∃ ob, (∀ b, ob = some b → w.heap.size ≤ b ∧ b < w'.heap.size) ∧
      OwnR P (fun b j => S b j ∨ (w.heap.size ≤ b ∧ b < w'.heap.size ∧ (ob = some b → wr = false ∧ j < cs.length))) w' ob (.own wr e m cs) v
  | d => Rep (fun b j => S b j ∨ (w.heap.size ≤ b ∧ b < w'.heap.size)) w' d v

def hasBody (P : Program) (f : FuncId) : Bool := match P.funcs[f]? with | some fn => fn.body.isSome && fn.name != "runtime.NumGoroutine" | none => false

/-- THE CONTRACT: called with the data ds, in a world of which L holds, the function returns the data r; what was there stays as it was. -/
def Con (P : Program) (L : World → Prop) (f : FuncId) (ds : List D) (r : D) : Prop :=
  (hasBody P f = true ∧ aliasOf r = none) ∧ ∀ (S : Nat → Nat → Prop) (w : World) (vs : List Value), (∀ b j, S b j → b < w.heap.size) → L w → Reps S w ds vs →
    Calls P f vs.toArray w fun e w' => ∃ v, e = .returned v ∧ Below w.heap.size w w' ∧ Res P S w w' r v

theorem Rep.ofSimple {d : D} {v : Value} (h : Rep S w d v) (hd : d.simple = true) {S' : Nat → Nat → Prop} {w' : World} : Rep S' w' d v := by
  cases h <;> first
    | exact .bool _
    | exact .int _ _
    | (exact .str _ (by assumption))
    | exact .errN
    | exact .errS _ _
    | simp [D.simple] at hd

theorem Rep.ofFlat0 {d : D} {v : Value} (h : Rep S w d v) (hd : d.flat0 = true) {S' : Nat → Nat → Prop} {w' : World} : Rep S' w' d v := by
  cases d with
  | agg cs =>
    cases h with
    | agg ds vs hl h1 h => exact .agg cs vs hl h1 fun i d v hd1 hv1 => (h i d v hd1 hv1).ofSimple (List.all_eq_true.1 hd d (List.mem_of_getElem? hd1))
  | _ => exact h.ofSimple hd

theorem Rep.ofFlat {d : D} {v : Value} (h : Rep S w d v) (hd : d.flat = true) {S' : Nat → Nat → Prop} {w' : World} : Rep S' w' d v := by
  cases d with
  | tup cs =>
    cases h with
    | tup ds vs hl h => exact .tup cs vs hl fun i d v hd1 hv1 => (h i d v hd1 hv1).ofFlat0 (List.all_eq_true.1 hd d (List.mem_of_getElem? hd1))
  | _ => exact h.ofFlat0 hd

/-- an owned value whose contents lie in more settled cells -/
theorem Inv.setOwn2 {w' : World} {S' : Nat → Nat → Prop} {d : D} {v : Value} {ob : Option Nat} (h : Inv P n S0 w0 S O g tm w) (hx : Ext w0 w w') (hd : d.owned = true) (hS : ∀ b j, S b j → S' b j)
    (hS' : ∀ b j, S' b j → S b j ∨ (w.heap.size ≤ b ∧ b < w'.heap.size)) (hr : OwnR P S' w' ob d v) (hob : ∀ b, ob = some b → w.heap.size ≤ b ∧ b < w'.heap.size) (hdst : n.Has dst)
    (hal : ∀ t' s, aliasOf (g t') = some s → s = dst → t' = dst) : Good P n S0 w0 (upd g dst d) (tm.setIfInBounds dst v) w' := by
  have h1 := h.ext hx
  have h2 : Inv P n S0 w0 S' O g tm w' := h1.settle hS (fun b o x => (hS' b o x).imp id fun y =>
    ⟨Nat.le_trans h.below.size y.1, y.2, fun t e => by have := (h.base t b e).2; omega, h.nfb_ge y.1⟩)
  have h3 := h2.clear dst v hdst.2 hal
  have h4 := h3.put (O' := fun t' => if t' = dst then ob else O t') (t := dst) (d := d) (fun t' e => by simp [e]) (by simp [upd]) (noAlias_clear hal)
    (fun b e => by
      simp only [if_true] at e
      refine ⟨Nat.le_trans h.below.size (hob b e).1, (hob b e).2, fun t' e' => ?_, h.nfb_ge (hob b e).1⟩
      split at e'
      · cases e'
      · have := (h.base t' b e').2; have := (hob b e).1; omega)
    ((SR.owned_iff hd).2 (by simp only [if_true]; rw [tmOf_set _ _ (by rw [h.size]; exact hdst.1) (h.has hdst)]; exact hr)) (.inl (h.has hdst))
  rw [upd_upd] at h4
  exact ⟨_, _, _, h4⟩

theorem Inv.result {w' : World} {r : D} {v : Value} (h : Inv P n S0 w0 S O g tm w) (hb : Below w.heap.size w w') (hr : Res P S w w' r v) (hdst : n.Has dst)
    (hal : ∀ t' s, aliasOf (g t') = some s → s = dst → t' = dst) : Good P n S0 w0 (upd g dst r) (tm.setIfInBounds dst v) w' := by
  have hx : Ext w0 w w' := ⟨hb.block, h.below.trans (hb.mono h.below.size), hb.size⟩
  have pure : Rep (fun b j => S b j ∨ (w.heap.size ≤ b ∧ b < w'.heap.size)) w' r v → Good P n S0 w0 (upd g dst r) (tm.setIfInBounds dst v) w' := fun hr =>
    ⟨_, _, _, h.setPure hx (fun _ _ z => .inl z) (fun _ _ z => z) hr hdst hal⟩
  cases r <;> simp only [Res] at hr <;> first
    | exact pure hr
    | skip
  obtain ⟨ob, h1, h2⟩ := hr
  exact h.setOwn2 hx rfl (fun _ _ z => .inl z) (fun b j z => z.imp id fun y => ⟨y.1, y.2.1⟩) h2 h1 hdst hal

theorem Inv.lends (gd : G) {S' : Nat → Nat → Prop} (hI' : Inv P n S0 w0 S' O gd tm w) (all : List PX) (hgd : gd = Pi.dullAll g (all.filterMap PX.slot)) : ∀ (ys : List Operand) (xs : List PX) (ds : List D),
    chkXs ys xs = true → (∀ x ∈ xs, x ∈ all) → optAll (xs.map (lend g)) = some ds → Reps S' w ds (ys.map (rho tm)) := by
  intro ys
  induction ys with
  | nil =>
    intro xs ds h1 h2 h3
    cases xs with
    | nil => simp [optAll] at h3; subst h3; exact .nil
    | cons x xs => simp [chkXs] at h1
  | cons y ys ih =>
    intro xs ds h1 h2 h3
    cases xs with
    | nil => simp [chkXs] at h1
    | cons x xs =>
      simp only [chkXs, Bool.and_eq_true] at h1
      cases ds with
      | nil => have := optAll_nil h3; simp at this
      | cons d ds =>
        obtain ⟨h4, h5⟩ := optAll_cons h3
        have hin := h2 x (List.mem_cons_self ..)
        refine .cons (hI'.lent h1.1 h4 ?_) (ih xs ds h1.2 (fun z hz => h2 z (List.mem_cons_of_mem _ hz)) h5)
        rw [hgd]
        exact ev_dullAll _ x (fun d e => chkX_k (e ▸ h1.1)) (fun s e => List.mem_filterMap.2 ⟨x, hin, e⟩)

def callArgs : K → List PX
  | .call _ args => args
  | .callV _ args => args
  | _ => []

theorem calls_pure {L : World → Prop} {f : FuncId} {ds : List D} {r : D} {k : K} {vs : List Value} (hI : Inv P n S0 w0 S O g tm w) (hk : (∃ f' args, k = .call f' args) ∨ ∃ t args, k = .callV t args)
    (hdst : n.Has dst) (hrd : dst ∉ k.reads) (hal : ∀ t s, aliasOf (g t) = some s → s ∈ k.kills dst → t ∈ k.kills dst) (hC : Con P L f ds r) (hL : L w)
    (hargs : ∀ S' gd, Inv P n S0 w0 S' O gd tm w → gd = dullAll g ((callArgs k).filterMap PX.slot) → Reps S' w ds vs) :
    Calls P f vs.toArray w fun e w' => ∃ v, e = .returned v ∧ Good P n S0 w0 (upds g (k.after dst g r)) (tm.setIfInBounds dst v) w' := by
  obtain ⟨S', hI', hSS⟩ := hI.dullAll ((callArgs k).filterMap PX.slot)
  have hreps := hargs S' _ hI' rfl
  have hkd : k.kills dst = [dst] := by rcases hk with ⟨_, _, rfl⟩ | ⟨_, _, rfl⟩ <;> rfl
  have hal1 := halD hkd hal
  refine (hC.2 S' w vs hI'.ex hL hreps).mono ?_
  rintro e w' ⟨v, rfl, hb, hres⟩
  refine ⟨v, rfl, ?_⟩
  have hnd : dst ∉ (callArgs k).filterMap PX.slot := by
    intro hm
    obtain ⟨x, hx1, hx2⟩ := List.mem_filterMap.1 hm
    refine hrd ?_
    rcases hk with ⟨_, _, rfl⟩ | ⟨_, _, rfl⟩
    · exact List.mem_flatMap.2 ⟨x, hx1, PX.slot_reads hx2⟩
    · exact List.mem_cons_of_mem _ (List.mem_flatMap.2 ⟨x, hx1, PX.slot_reads hx2⟩)
  by_cases hf : r.flat = true
  · have e1 : upds g (k.after dst g r) = upd g dst r := by rcases hk with ⟨_, _, rfl⟩ | ⟨_, _, rfl⟩ <;> simp [K.after, hf, upds]
    rw [e1]
    have hx : Ext w0 w w' := ⟨hb.block, hI.below.trans (hb.mono hI.below.size), hb.size⟩
    have hrep : Rep S w' r v := by
      cases r <;> simp only [Res] at hres <;> first
        | exact hres.ofFlat hf
        | simp [D.flat, D.flat0, D.simple] at hf
    exact ⟨_, _, _, hI.setPure hx (fun _ _ z => z) (fun _ _ z => .inl z) hrep hdst hal1⟩
  · have e1 : upds g (k.after dst g r) = upd (dullAll g ((callArgs k).filterMap PX.slot)) dst r := by
      rcases hk with ⟨_, _, rfl⟩ | ⟨_, _, rfl⟩ <;> simp only [K.after, hf, if_false, Bool.false_eq_true] <;> exact upds_dst_dulls _ dst r hnd
    rw [e1]
    exact hI'.result hb hres hdst (fun t' s z1 z2 => by rw [alias_dullAll] at z1; exact hal1 t' s z1 z2)

theorem Rep.clo_inv {f : FuncId} {ds : List D} {vs : List Value} (h : Rep S w (.clo f ds) (.func (.func f) #[] vs.toArray)) : Reps S w ds vs := by
  generalize hq : Value.func (.func f) #[] vs.toArray = q at h
  cases h with
  | clo f2 ds2 vs2 hl2 hh2 =>
    have : vs = vs2 := by simpa using hq
    subst this
    exact ⟨hl2, hh2⟩

theorem exec_call {f : FuncId} {args : List PX} (hc : chkOp P o (.call f args) = true) : ∃ as : List Operand, chkXs as args = true ∧ (execOp (rho tm) o).run P w = .ok (.enter f (as.map (rho tm)).toArray) w := by
  simp only [chkOp] at hc
  split at hc <;> try (cases hc; done)
  rename_i f' as hop hats
  simp only [Bool.and_eq_true, beq_iff_eq] at hc
  obtain ⟨⟨rfl, h1⟩, h2⟩ := hc
  split at h2 <;> try (cases h2; done)
  rename_i fn hfn
  simp only [Bool.and_eq_true, bne_iff_ne, ne_eq] at h2
  refine ⟨as.toList, h1, ?_⟩
  have e0 : rho tm (.func f) = .func (.func f) #[] #[] := rfl
  obtain ⟨c, hb⟩ := Option.isSome_iff_exists.1 h2.1
  have e1 : (as.toList.map (rho tm)).toArray = as.map (rho tm) := by apply Array.ext'; simp
  rw [e1]
  simp [execOp, *, resolve, Deferred.ofValue, invoke, callFunc]

theorem exec_callV {t : Nat} {args : List PX} {f : FuncId} {caps : List Value} (hc : chkOp P o (.callV t args) = true) (ht : tm.getD t undef = .func (.func f) #[] caps.toArray) (hb : hasBody P f = true) :
    ∃ as : List Operand, chkXs as args = true ∧ (execOp (rho tm) o).run P w = .ok (.enter f (as.map (rho tm) ++ caps).toArray) w := by
  simp only [chkOp] at hc
  split at hc <;> try (cases hc; done)
  rename_i t' as hop hats
  simp only [Bool.and_eq_true, beq_iff_eq] at hc
  obtain ⟨rfl, h1⟩ := hc
  unfold hasBody at hb
  split at hb <;> try (cases hb; done)
  rename_i fn hfn
  simp only [Bool.and_eq_true, bne_iff_ne, ne_eq] at hb
  refine ⟨as.toList, h1, ?_⟩
  have e0 : rho tm (.tmp t) = .func (.func f) #[] caps.toArray := ht
  obtain ⟨c, hbc⟩ := Option.isSome_iff_exists.1 hb.1
  have e1 : (as.toList.map (rho tm) ++ caps).toArray = as.map (rho tm) ++ caps.toArray := by apply Array.ext'; simp
  rw [e1]
  simp [execOp, *, resolve, Deferred.ofValue, invoke, callFunc]

/-- all kinds but stores and calls -/
theorem sound_all (k : K) (hk : k.callee g = none ∨ ∃ l, k.run dst g = some l) (hns : ∀ m x v, k ≠ .st m x v) (hnO : ∀ t v ks, k ≠ .sgO t v ks) (hnP : ∀ t v ks, k ≠ .sgP t v ks) (hnM : ∀ p t i v ks, k ≠ .sgM p t i v ks) (hnQ : ∀ t z, k ≠ .stQ t z) {l : List (Nat × D)}
    (hI : Inv P n S0 w0 S O g tm w) (hc : chkOp P o k = true) (hrd : dst ∉ k.reads) (hdst : n.Has dst) (hrun : k.run dst g = some l)
    (hal : ∀ t s, aliasOf (g t) = some s → s ∈ k.kills dst → t ∈ k.kills dst) :
    ∃ v w', (execOp (rho tm) o).run P w = .ok (.value v) w' ∧ Good P n S0 w0 (upds g l) (tm.setIfInBounds dst v) w' := by
  cases k with
  | bad => cases hrun
  | mv x => exact sound_mv x hI hc hrd hdst hrun hal
  | cp x => exact sound_cp x hI hc hrd hdst hrun hal
  | nil e => exact sound_nil e hI hc hrd hdst hrun hal
  | tk t => exact sound_tk t hI hc hrd hdst hrun hal
  | sh x => exact sound_sh x hI hc hrd hdst hrun hal
  | ari op k x y => exact sound_ari op k x y hI hc hrd hdst hrun hal
  | ci op x y => exact sound_ci op x y hI hc hrd hdst hrun hal
  | cat x y => exact sound_cat x y hI hc hrd hdst hrun hal
  | sc op x y => exact sound_sc op x y hI hc hrd hdst hrun hal
  | eqb neg x y => exact sound_eqb neg x y hI hc hrd hdst hrun hal
  | eq neg sig x y => exact sound_eq neg sig x y hI hc hrd hdst hrun hal
  | en neg x => exact sound_en neg x hI hc hrd hdst hrun hal
  | not x => exact sound_not x hI hc hrd hdst hrun hal
  | ng k x => exact sound_ng k x hI hc hrd hdst hrun hal
  | cvI k x => exact sound_cvI k x hI hc hrd hdst hrun hal
  | cvS x => exact sound_cvS x hI hc hrd hdst hrun hal
  | cvSB x => exact sound_cvSB x hI hc hrd hdst hrun hal
  | cvBS x => exact sound_cvBS x hI hc hrd hdst hrun hal
  | len x => exact sound_len x hI hc hrd hdst hrun hal
  | lenS x => exact sound_lenS x hI hc hrd hdst hrun hal
  | ix x i => exact sound_ix x i hI hc hrd hdst hrun hal
  | ia sz x i => exact sound_ia sz x i hI hc hrd hdst hrun hal
  | iaA m sz x i => exact sound_iaA m sz x i hI hc hrd hdst hrun hal
  | fa off x => exact sound_fa off x hI hc hrd hdst hrun hal
  | ld ag m x => exact sound_ld ag m x hI hc hrd hdst hrun hal
  | st m x v => exact absurd rfl (hns m x v)
  | alloc z => exact sound_alloc z hI hc hrd hdst hrun hal
  | bx m x => exact sound_bx m x hI hc hrd hdst hrun hal
  | bld z ps => exact sound_bld z ps hI hc hrd hdst hrun hal
  | bldS e z m ps => exact sound_bldS e z m ps hI hc hrd hdst hrun hal
  | mkS e z bytes l c => exact sound_mkS e z bytes l c hI hc hrd hdst hrun hal
  | app e sz bytes x y => exact sound_app e sz bytes x y hI hc hrd hdst hrun hal
  | slc sz x lo hi => exact sound_slc sz x lo hi hI hc hrd hdst hrun hal
  | slS x lo hi => exact sound_slS x lo hi hI hc hrd hdst hrun hal
  | mkf f caps => exact sound_mkf f caps hI hc hrd hdst hrun hal
  | slA m sz x => exact sound_slA m sz x hI hc hrd hdst hrun hal
  | s2a m sz x => exact sound_s2a m sz x hI hc hrd hdst hrun hal
  | bldA z ps => exact sound_bldA z ps hI hc hrd hdst hrun hal
  | bldL e z m ps => exact sound_bldL e z m ps hI hc hrd hdst hrun hal
  | ext t i => exact sound_ext t i hI hc hrd hdst hrun hal
  | pick c a b => exact sound_pick c a b hI hc hrd hdst hrun hal
  | fld ag off m x => exact sound_fld ag off m x hI hc hrd hdst hrun hal
  | ixA ag n m x i => exact sound_ixA ag n m x i hI hc hrd hdst hrun hal
  | mm mx xs => exact sound_mm mx xs hI hc hrd hdst hrun hal
  | call f args => cases hrun
  | callV t args => cases hrun
  | alG e => exact sound_alG e hI hc hrd hdst hrun hal
  | lg t => exact sound_lg t hI hc hrd hdst hrun hal
  | sgO t v ks => exact absurd rfl (hnO t v ks)
  | sgP t v ks => exact absurd rfl (hnP t v ks)
  | faM t i => exact sound_faM t i hI hc hrd hdst hrun hal
  | lgM p t i => exact sound_lgM p t i hI hc hrd hdst hrun hal
  | sgM p t i v ks => exact absurd rfl (hnM p t i v ks)
  | ldM m t fs => exact sound_ldM m t fs hI hc hrd hdst hrun hal
  | bldQ a b => exact sound_bldQ a b hI hc hrd hdst hrun hal
  | stQ t z => exact absurd rfl (hnQ t z)
  | lgD p t i => exact sound_lgD p t i hI hc hrd hdst hrun hal

end Go.Pi

/-
  WHAT AN OPERATION READS AND WRITES; operations that may change places. Own work.
-/
namespace Go.Pi
open Go Go.RowKit

variable {P : Program} {n : Nz} {S0 S : Nat → Nat → Prop} {w0 w : World} {O : Nat → Option Nat} {g : G} {tm : Array Value} {o : Oper} {dst : Nat}

/-- the slot for which the written slot is another name -/
def K.tgt : K → Option Nat
  | .mv x => x.slot
  | .ia _ x _ => x.slot
  | .iaA _ _ x _ => x.slot
  | .fa _ x => x.slot
  | .lg t => some (GB + t)
  | .faM t _ => some t
  | .lgM _ t i => some (GF t i)
  | _ => none

def K.writes (dst : Nat) : K → List Nat
  | .tk t => [dst, t]
  | .sh x => dst :: x.slot.toList
  | .app _ _ _ x _ => dst :: x.reads
  | .slc _ x _ _ | .slA _ _ x => dst :: x.slot.toList
  | .mkf _ xs | .call _ xs | .callV _ xs => dst :: xs.filterMap PX.slot
  | .bldA _ ps | .bldL _ _ _ ps => dst :: (ps.map fun p => p.2.2).filterMap PX.slot
  | .st _ x _ => x.slot.toList
  | .alG _ => [dst, GB + dst]
  | .sgO t v ks => t :: (GB + t) :: (v.reads ++ ks)
  | .sgP t _ ks => t :: (GB + t) :: ks
  | .sgM p t i v ks => t :: GF t i :: p :: (v.reads ++ ks)
  | .ldM _ _ fs => dst :: fs
  | .bldQ a b => [dst, GF dst 0, GF dst 1, a, b]
  | .stQ t z => [t, GF t 0, GF t 1, z, GF z 0, GF z 1]
  | .lgD _ t i => [dst, GF t i]
  | _ => [dst]

section congr
variable {g' : G}

theorem PX.ev_congr {x : PX} (h : ∀ t ∈ x.reads, g t = g' t) : x.ev g = x.ev g' := by
  cases x with
  | v t => exact h t (by simp [PX.reads])
  | k d => rfl
  | o t s => simp only [PX.ev, h t (by simp [PX.reads]), h s (by simp [PX.reads])]

theorem PX.at_congr {x : PX} (h : ∀ t ∈ x.reads, g t = g' t) : x.at g = x.at g' := by
  cases x with
  | v t => simp only [PX.at, h t (by simp [PX.reads])]
  | k d => rfl
  | o t s => simp only [PX.at, h t (by simp [PX.reads]), h s (by simp [PX.reads])]

theorem Where.cells_congr {x : PX} {p : Where} (h : ∀ t ∈ x.reads, g t = g' t) (ha : x.at g = some p) : p.cells g = p.cells g' := by
  cases p with
  | imm cs => rfl
  | own s off => simp only [Where.cells, h s (PX.slot_reads (PX.at_own ha))]

theorem lend_congr {x : PX} (h : ∀ t ∈ x.reads, g t = g' t) : lend g x = lend g' x := by simp only [lend, PX.ev_congr h]
theorem capt_congr {x : PX} (h : ∀ t ∈ x.reads, g t = g' t) : capt g x = capt g' x := by simp only [capt, PX.ev_congr h]

theorem bound_congr {x : Option PX} {a b : Nat} (h : ∀ t ∈ x.toList.flatMap PX.reads, g t = g' t) : bound g a b x = bound g' a b x := by
  cases x with
  | none => rfl
  | some x => simp only [bound, PX.ev_congr (g := g) (g' := g') (x := x) (fun t ht => h t (by simpa using ht))]

theorem map_congr {α : Type} {f f' : PX → α} {xs : List PX} (hf : ∀ x, (∀ t ∈ x.reads, g t = g' t) → f x = f' x) (h : ∀ t ∈ xs.flatMap PX.reads, g t = g' t) : xs.map f = xs.map f' :=
  List.map_congr_left fun x hx => hf x fun t ht => h t (List.mem_flatMap.2 ⟨x, hx, ht⟩)

theorem dulls_congr {xs : List PX} (h : ∀ t ∈ xs.flatMap PX.reads, g t = g' t) : dulls g xs = dulls g' xs := by
  induction xs with
  | nil => rfl
  | cons x xs ih =>
    have h1 := ih (fun t ht => h t (by simp only [List.flatMap_cons, List.mem_append]; exact .inr ht))
    unfold dulls at h1 ⊢
    cases hs : x.slot with
    | none => simp only [List.filterMap_cons, hs, Option.map_none]; exact h1
    | some s =>
      have : g s = g' s := h s (by simp only [List.flatMap_cons, List.mem_append]; exact .inl (PX.slot_reads hs))
      simp only [List.filterMap_cons, hs, Option.map_some, this, h1]

theorem parts_congr {ps : List (Nat × Nat × PX)} (h : ∀ t ∈ ps.flatMap (fun p => p.2.2.reads), g t = g' t) : (ps.map fun (o, m, x) => (o, m, x.ev g)) = ps.map fun (o, m, x) => (o, m, x.ev g') :=
  List.map_congr_left fun p hp => by
    obtain ⟨o, m, x⟩ := p
    simp only [PX.ev_congr (g := g) (g' := g') (x := x) (fun t ht => h t (List.mem_flatMap.2 ⟨_, hp, ht⟩))]

theorem parts_congr_plain {ps : List (Nat × Nat × PX)} (h : ∀ t ∈ ps.flatMap (fun p => p.2.2.reads), g t = g' t) : (ps.map fun (o, m, x) => (o, m, (x.ev g).plain)) = ps.map fun (o, m, x) => (o, m, (x.ev g').plain) :=
  List.map_congr_left fun p hp => by
    obtain ⟨o, m, x⟩ := p
    simp only [PX.ev_congr (g := g) (g' := g') (x := x) (fun t ht => h t (List.mem_flatMap.2 ⟨_, hp, ht⟩))]

theorem parts_dulls_congr {ps : List (Nat × Nat × PX)} (h : ∀ t ∈ ps.flatMap (fun p => p.2.2.reads), g t = g' t) : dulls g (ps.map fun p => p.2.2) = dulls g' (ps.map fun p => p.2.2) :=
  dulls_congr fun t ht => by
    obtain ⟨x, hx, ht⟩ := List.mem_flatMap.1 ht
    obtain ⟨p, hp, rfl⟩ := List.mem_map.1 hx
    exact h t (List.mem_flatMap.2 ⟨p, hp, ht⟩)

theorem K.run_congr {k : K} (h : ∀ t ∈ k.reads, g t = g' t) : k.run dst g = k.run dst g' := by
  cases k <;> simp only [K.reads] at h
  case bad => rfl
  case mv x =>
    cases x with
    | v t => simp only [K.run, h t (by simp [PX.reads])]
    | k d => rfl
    | o t s => simp only [K.run, h t (by simp [PX.reads])]
  case nil => rfl
  case tk t => simp only [K.run, h t (by simp)]
  case sh x =>
    simp only [K.run, PX.ev_congr h]
    cases hs : x.slot with
    | none => rfl
    | some s =>
      have hq := h s (PX.slot_reads hs)
      cases hv : x.ev g' <;> simp only [hq]
  case ld ag m x =>
    simp only [K.run, ← PX.at_congr h]
    cases ha : x.at g with
    | none => rfl
    | some p => simp only [Where.cells_congr h ha]
  case st m x v =>
    have h1 : ∀ t ∈ x.reads, g t = g' t := fun t ht => h t (List.mem_append_left _ ht)
    have h2 : ∀ t ∈ v.reads, g t = g' t := fun t ht => h t (List.mem_append_right _ ht)
    simp only [K.run, ← PX.at_congr h1, PX.ev_congr h2]
    cases ha : x.at g with
    | none => rfl
    | some p =>
      cases p with
      | imm cs => rfl
      | own s off => simp only [h1 s (PX.slot_reads (PX.at_own ha))]
  case alloc => rfl
  case alG => rfl
  case lg t => simp only [K.run, h t (by simp)]
  case faM t i => simp only [K.run, h t (by simp)]
  case lgM p t i => simp only [K.run, h p (by simp), h t (by simp)]
  case sgM p t i v ks =>
    have h0 : g p = g' p := h p (List.mem_cons_self ..)
    have h1 : g t = g' t := h t (List.mem_cons_of_mem _ (List.mem_cons_self ..))
    have h2 : ∀ t ∈ v.reads, g t = g' t := fun s hs => h s (List.mem_cons_of_mem _ (List.mem_cons_of_mem _ hs))
    simp only [K.run, h0, h1, PX.ev_congr h2]
  case ldM m t fs =>
    have h1 : g t = g' t := h t (List.mem_cons_self ..)
    have h2 : ∀ s ∈ fs, g s = g' s := fun s hs => h s (List.mem_cons_of_mem _ hs)
    have e1 : fs.map (fun s => (s, (g s).dull)) = fs.map (fun s => (s, (g' s).dull)) := List.map_congr_left fun s hs => by rw [h2 s hs]
    have e2 : ∀ d, fldOk g fs d = fldOk g' fs d := fun d => by
      cases d <;> try rfl
      rename_i s
      by_cases hs : s ∈ fs
      · simp only [fldOk, h2 s hs]
      · simp [fldOk, hs]
    have e3 : fldOk g fs = fldOk g' fs := funext e2
    simp only [K.run, h1, e1, e3]
    cases hq : boxCs (g' t) with
    | none => rfl
    | some cs =>
      simp only
      split
      · rename_i hk
        have e4 : cs.map (unM g) = cs.map (unM g') := List.map_congr_left fun d hd => by
          have := List.all_eq_true.1 hk.2.2.2 d hd
          cases d <;> try rfl
          rename_i s
          simp only [fldOk, Bool.and_eq_true, List.contains_iff_mem] at this
          show (g s).plain = (g' s).plain
          rw [h2 s this.1]
        rw [e4]
      · rfl
  case bldQ a b => simp only [K.run, h a (by simp), h b (by simp)]
  case stQ t z => simp only [K.run, h t (by simp), h z (by simp), h (GF z 0) (by simp), h (GF z 1) (by simp)]
  case lgD p t i => simp only [K.run, h p (by simp), h t (by simp), h (GF t i) (by simp)]
  case sgO t v ks =>
    have h1 : g t = g' t := h t (List.mem_cons_self ..)
    have h2 : ∀ t ∈ v.reads, g t = g' t := fun s hs => h s (List.mem_cons_of_mem _ hs)
    simp only [K.run, h1, PX.ev_congr h2]
  case sgP t v ks =>
    have h1 : g t = g' t := h t (List.mem_cons_self ..)
    have h2 : ∀ t ∈ v.reads, g t = g' t := fun s hs => h s (List.mem_cons_of_mem _ hs)
    simp only [K.run, h1, PX.ev_congr h2]
  case bld z ps => simp only [K.run, parts_congr h]
  case bldS e z m ps => simp only [K.run, parts_congr h]
  case slA m sz x =>
    simp only [K.run, lend_congr h]
    cases hs : x.slot with
    | none => rfl
    | some s =>
      have hq := h s (PX.slot_reads hs)
      cases hl : lend g' x with
      | none => rfl
      | some d => cases d <;> first | rfl | simp only [hq]
  case bldA z ps => simp only [K.run, parts_congr_plain h, parts_dulls_congr h]
  case bldL e z m ps => simp only [K.run, parts_congr_plain h, parts_dulls_congr h]
  case slc sz x lo hi =>
    have h1 : ∀ t ∈ x.reads, g t = g' t := fun t ht => h t (List.mem_append_left _ (List.mem_append_left _ ht))
    have h2 : ∀ t ∈ lo.toList.flatMap PX.reads, g t = g' t := fun t ht => h t (List.mem_append_left _ (List.mem_append_right _ ht))
    have h3 : ∀ t ∈ hi.toList.flatMap PX.reads, g t = g' t := fun t ht => h t (List.mem_append_right _ ht)
    simp only [K.run, PX.ev_congr h1]
    cases hs : x.slot with
    | none => rfl
    | some s =>
      have hq := h1 s (PX.slot_reads hs)
      cases hv : (x.ev g').slv with
      | none => rfl
      | some p =>
        obtain ⟨m, cs⟩ := p
        simp only [hq, bound_congr (a := m) (b := m) h3]
        cases hb : bound g' m m hi with
        | none => rfl
        | some hh => simp only [bound_congr (a := 0) (b := hh) h2]
  case slS x lo hi =>
    have h1 : ∀ t ∈ x.reads, g t = g' t := fun t ht => h t (List.mem_append_left _ (List.mem_append_left _ ht))
    have h2 : ∀ t ∈ lo.toList.flatMap PX.reads, g t = g' t := fun t ht => h t (List.mem_append_left _ (List.mem_append_right _ ht))
    have h3 : ∀ t ∈ hi.toList.flatMap PX.reads, g t = g' t := fun t ht => h t (List.mem_append_right _ ht)
    simp only [K.run, PX.ev_congr h1]
    cases hv : x.ev g' <;> simp only
    rename_i l
    simp only [bound_congr (a := l.length) (b := l.length) h3]
    cases hb : bound g' l.length l.length hi with
    | none => rfl
    | some hh => simp only [bound_congr (a := 0) (b := hh) h2]
  case mkf f xs => simp only [K.run, map_congr (f := capt g) (f' := capt g') (g := g) (g' := g') (fun x hx => capt_congr hx) h, dulls_congr h]
  case mm mx xs => simp only [K.run, map_congr (f := fun x => kval (x.ev g)) (f' := fun x => kval (x.ev g')) (g := g) (g' := g') (fun x hx => by rw [PX.ev_congr hx]) h]
  case ext t i => simp only [K.run, h t (by simp)]
  case pick a b c =>
    have h1 : ∀ t ∈ a.reads, g t = g' t := fun t ht => h t (List.mem_append_left _ (List.mem_append_left _ ht))
    have h2 : ∀ t ∈ b.reads, g t = g' t := fun t ht => h t (List.mem_append_left _ (List.mem_append_right _ ht))
    have h3 : ∀ t ∈ c.reads, g t = g' t := fun t ht => h t (List.mem_append_right _ ht)
    simp only [K.run, PX.ev_congr h1, PX.ev_congr h2, PX.ev_congr h3]
  case call f xs => rfl
  case callV t xs => rfl
  case iaA m sz x y =>
    have h1 : ∀ t ∈ x.reads, g t = g' t := fun t ht => h t (List.mem_append_left _ ht)
    have h2 : ∀ t ∈ y.reads, g t = g' t := fun t ht => h t (List.mem_append_right _ ht)
    simp only [K.run, PX.at_congr h1, PX.ev_congr h2]
  case fa off x => simp only [K.run, PX.at_congr h]
  all_goals first
    | (simp only [K.run, PX.ev_congr h]; done)
    | (rename_i x y
       have h1 : ∀ t ∈ x.reads, g t = g' t := fun t ht => h t (List.mem_append_left _ ht)
       have h2 : ∀ t ∈ y.reads, g t = g' t := fun t ht => h t (List.mem_append_right _ ht)
       simp only [K.run, PX.ev_congr h1, PX.ev_congr h2])

theorem K.callee_congr {k : K} (h : ∀ t ∈ k.reads, g t = g' t) : k.callee g = k.callee g' := by
  cases k <;> simp only [K.reads] at h <;> try rfl
  · simp only [K.callee, map_congr (f := lend g) (f' := lend g') (g := g) (g' := g') (fun x hx => lend_congr hx) h]
  · rename_i t xs
    have h2 : ∀ t ∈ xs.flatMap PX.reads, g t = g' t := fun s hs => h s (List.mem_cons_of_mem _ hs)
    simp only [K.callee, h t (List.mem_cons_self ..), map_congr (f := lend g) (f' := lend g') (g := g) (g' := g') (fun x hx => lend_congr hx) h2]

theorem K.after_congr {k : K} {r : D} (h : ∀ t ∈ k.reads, g t = g' t) : k.after dst g r = k.after dst g' r := by
  cases k <;> simp only [K.reads] at h <;> try rfl
  · simp only [K.after, dulls_congr h]
  · simp only [K.after, dulls_congr (fun s hs => h s (List.mem_cons_of_mem _ hs))]
end congr

theorem dulls_fst (xs : List PX) : ∀ p ∈ dulls g xs, p.1 ∈ xs.filterMap PX.slot ∧ p.2 = (g p.1).dull := by
  intro p hp
  obtain ⟨x, hx, he⟩ := List.mem_filterMap.1 hp
  rw [Option.map_eq_some_iff] at he
  obtain ⟨s, hs, rfl⟩ := he
  exact ⟨List.mem_filterMap.2 ⟨x, hx, hs⟩, rfl⟩

theorem ofCells_alias {ag : Bool} {m : Nat} {cs : List D} {d : D} (h : ofCells ag m cs = some d) : aliasOf d = none := by
  unfold ofCells at h
  (repeat' split at h) <;> try (cases h; done)
  · cases h; rfl
  · rename_i d' _ hd
    cases h
    cases d <;> first | rfl | simp [D.one] at hd

/-- every update of an operation is of a slot in its list; but for the written slot it makes no other name -/
theorem K.run_upd {k : K} {l : List (Nat × D)} (h : k.run dst g = some l) : ∀ p ∈ l, p.1 ∈ k.writes dst ∧ (p.1 = dst ∧ (aliasOf p.2 = none ∨ aliasOf p.2 = k.tgt) ∨ aliasOf p.2 = none ∨ aliasOf p.2 = aliasOf (g p.1)) := by
  intro p hp
  cases k <;> simp only [K.run] at h
  case mkf f xs =>
    rw [Option.map_eq_some_iff] at h
    obtain ⟨ds, _, rfl⟩ := h
    rcases List.mem_cons.1 hp with rfl | hp
    · exact ⟨by simp [K.writes], .inr (.inl rfl)⟩
    · obtain ⟨h1, h2⟩ := dulls_fst xs p hp
      exact ⟨by simp only [K.writes]; exact List.mem_cons_of_mem _ h1, .inr (.inr (by rw [h2, aliasOf_dull]))⟩
  case slA m sz x =>
    (repeat' split at h) <;> cases h
    rename_i hs _ _
    simp only [List.mem_cons, List.not_mem_nil, or_false] at hp
    rcases hp with rfl | rfl
    · exact ⟨by simp [K.writes], .inr (.inl rfl)⟩
    · exact ⟨by simp [K.writes, hs], .inr (.inr (aliasOf_dull _))⟩
  case s2a m sz x =>
    (repeat' split at h) <;> cases h
    simp only [List.mem_singleton] at hp
    subst hp
    exact ⟨by simp [K.writes], .inr (.inl rfl)⟩
  case bldA z ps =>
    rw [Option.map_eq_some_iff] at h
    obtain ⟨ds, _, rfl⟩ := h
    rcases List.mem_cons.1 hp with rfl | hp
    · exact ⟨by simp [K.writes], .inr (.inl rfl)⟩
    · obtain ⟨h1, h2⟩ := dulls_fst _ p hp
      exact ⟨by simp only [K.writes]; exact List.mem_cons_of_mem _ h1, .inr (.inr (by rw [h2, aliasOf_dull]))⟩
  case bldL e z m ps =>
    rw [Option.map_eq_some_iff] at h
    obtain ⟨ds, _, rfl⟩ := h
    rcases List.mem_cons.1 hp with rfl | hp
    · exact ⟨by simp [K.writes], .inr (.inl rfl)⟩
    · obtain ⟨h1, h2⟩ := dulls_fst _ p hp
      exact ⟨by simp only [K.writes]; exact List.mem_cons_of_mem _ h1, .inr (.inr (by rw [h2, aliasOf_dull]))⟩
  case app e sz bytes x y =>
    split at h <;> try (cases h; done)
    rename_i s _ _ _ _ _ _ hs _ _
    split at h <;> try (cases h; done)
    have hsr := PX.slot_reads hs
    split at h <;> cases h
    · simp only [List.mem_cons, List.not_mem_nil, or_false] at hp
      rcases hp with rfl | rfl | rfl
      · exact ⟨by simp [K.writes], .inr (.inl rfl)⟩
      · exact ⟨by simp only [K.writes]; exact List.mem_cons_of_mem _ hsr, .inr (.inl rfl)⟩
      · exact ⟨by simp [K.writes, PX.reads], .inr (.inl rfl)⟩
    · simp only [List.mem_cons, List.not_mem_nil, or_false] at hp
      rcases hp with rfl | rfl
      · exact ⟨by simp [K.writes], .inr (.inl rfl)⟩
      · exact ⟨by simp only [K.writes]; exact List.mem_cons_of_mem _ hsr, .inr (.inl rfl)⟩
  case mv x =>
    (repeat' split at h) <;> first
      | (cases h; done)
      | (cases h; simp only [List.mem_cons, List.not_mem_nil, or_false] at hp; subst hp
         refine ⟨by simp [K.writes], .inl ⟨rfl, ?_⟩⟩
         first
           | (right; rfl)
           | (right; simp_all [aliasOf, K.tgt, PX.slot]; done)
           | (left; rename_i d hdp; cases d <;> first | rfl | simp [D.isPure] at hdp)
           | (left; simp only []; cases hq : g _ <;> simp_all [aliasOf]))
  case cp x =>
    split at h <;> cases h
    rename_i hd
    simp only [List.mem_cons, List.not_mem_nil, or_false] at hp; subst hp
    refine ⟨by simp [K.writes], .inr (.inl ?_)⟩
    simp only
    generalize PX.ev g _ = q at hd ⊢
    cases q <;> first | rfl | simp [D.isPure] at hd
  case tk t =>
    split at h <;> cases h
    all_goals
      simp only [List.mem_cons, List.not_mem_nil, or_false] at hp
      rcases hp with rfl | rfl
    · rename_i h1 h2 h3 h4 h5 h6
      refine ⟨by simp [K.writes], .inl ⟨rfl, .inl ?_⟩⟩
      cases hq : g t <;> first | rfl | (exfalso; first | exact h1 _ hq | exact h2 _ _ hq | exact h3 _ hq | exact h4 _ hq | exact h3 hq | exact h4 hq)
    · exact ⟨by simp [K.writes], .inr (.inl rfl)⟩
  case sh x =>
    split at h <;> cases h
    all_goals
      rename_i hs hv
      simp only [List.mem_cons, List.not_mem_nil, or_false] at hp
      rcases hp with rfl | rfl
    · exact ⟨by simp [K.writes], .inr (.inl rfl)⟩
    · exact ⟨by simp [K.writes, hs], .inr (.inl rfl)⟩
    · exact ⟨by simp [K.writes], .inr (.inl rfl)⟩
    · exact ⟨by simp [K.writes, hs], .inr (.inr rfl)⟩
  case slc sz x lo hi =>
    (repeat' split at h) <;> cases h
    rename_i hs _ _ _ _ _ _ _ _
    simp only [List.mem_cons, List.not_mem_nil, or_false] at hp
    rcases hp with rfl | rfl
    · exact ⟨by simp [K.writes], .inr (.inl rfl)⟩
    · exact ⟨by simp [K.writes, hs], .inr (.inr (aliasOf_dull _))⟩
  case st m x v =>
    split at h <;> try (cases h; done)
    rename_i s off ha
    split at h <;> cases h
    rename_i hk
    simp only [List.mem_cons, List.not_mem_nil, or_false] at hp
    subst hp
    refine ⟨by simp [K.writes, PX.at_own ha], .inr (.inl ?_)⟩
    have h1 := hk.1
    cases hq : g s <;> rw [hq] at h1 <;> first | rfl | simp [D.wr] at h1
  case ia sz x i =>
    (repeat' split at h) <;> cases h <;> (simp only [List.mem_cons, List.not_mem_nil, or_false] at hp; subst hp)
    · exact ⟨by simp [K.writes], .inr (.inl rfl)⟩
    · rename_i hs _
      exact ⟨by simp [K.writes], .inl ⟨rfl, .inr (by simp [aliasOf, K.tgt, hs])⟩⟩
  case iaA m sz x i =>
    (repeat' split at h) <;> cases h <;> (simp only [List.mem_cons, List.not_mem_nil, or_false] at hp; subst hp)
    · exact ⟨by simp [K.writes], .inr (.inl rfl)⟩
    · rename_i ha _ _
      exact ⟨by simp [K.writes], .inl ⟨rfl, .inr (by simp [aliasOf, K.tgt, PX.at_own ha])⟩⟩
  case fa off x =>
    (repeat' split at h) <;> cases h <;> (simp only [List.mem_cons, List.not_mem_nil, or_false] at hp; subst hp)
    · exact ⟨by simp [K.writes], .inr (.inl rfl)⟩
    · rename_i ha
      exact ⟨by simp [K.writes], .inl ⟨rfl, .inr (by simp [aliasOf, K.tgt, PX.at_own ha])⟩⟩
  case alG e =>
    cases h
    simp only [List.mem_cons, List.not_mem_nil, or_false] at hp
    rcases hp with rfl | rfl <;> exact ⟨by simp [K.writes], .inr (.inl rfl)⟩
  case lg t =>
    split at h
    · split at h <;> cases h
      simp only [List.mem_cons, List.not_mem_nil, or_false] at hp; subst hp
      exact ⟨by simp [K.writes], .inl ⟨rfl, .inr (by simp [aliasOf, K.tgt])⟩⟩
    · rename_i wr d hgd
      split at h <;> cases h
      rename_i hd
      simp only [List.mem_cons, List.not_mem_nil, or_false] at hp; subst hp
      refine ⟨by simp [K.writes], .inr (.inl ?_)⟩
      have hd := hd.1
      simp only
      clear hgd
      cases d <;> first | rfl | simp [D.isPure] at hd
    · cases h
  case faM t i =>
    split at h <;> try (cases h; done)
    split at h <;> cases h
    simp only [List.mem_cons, List.not_mem_nil, or_false] at hp; subst hp
    exact ⟨by simp [K.writes], .inl ⟨rfl, .inr (by simp [aliasOf, K.tgt])⟩⟩
  case lgM p t i =>
    split at h <;> try (cases h; done)
    split at h <;> try (cases h; done)
    unfold lgMr at h
    split at h <;> try (cases h; done)
    · split at h <;> cases h
      simp only [List.mem_cons, List.not_mem_nil, or_false] at hp; subst hp
      exact ⟨by simp [K.writes], .inl ⟨rfl, .inr (by simp [aliasOf, K.tgt])⟩⟩
    · split at h <;> cases h
      rename_i d _ _ hd
      simp only [List.mem_cons, List.not_mem_nil, or_false] at hp; subst hp
      refine ⟨by simp [K.writes], .inr (.inl ?_)⟩
      have hd := hd.1
      simp only
      cases d <;> first | rfl | simp [D.isPure] at hd
  case sgM p t i v ks =>
    split at h <;> try (cases h; done)
    split at h <;> cases h
    rcases List.mem_cons.1 hp with rfl | hp
    · exact ⟨by simp [K.writes], .inr (.inl rfl)⟩
    rcases List.mem_cons.1 hp with rfl | hp
    · exact ⟨by simp [K.writes], .inr (.inl rfl)⟩
    obtain ⟨z, hz, rfl⟩ := List.mem_map.1 hp
    exact ⟨by simp only [K.writes]; exact List.mem_cons_of_mem _ (List.mem_cons_of_mem _ hz), .inr (.inl rfl)⟩
  case ldM m t fs =>
    split at h <;> try (cases h; done)
    split at h <;> cases h
    rcases List.mem_cons.1 hp with rfl | hp
    · exact ⟨by simp [K.writes], .inr (.inl rfl)⟩
    obtain ⟨z, hz, rfl⟩ := List.mem_map.1 hp
    exact ⟨by simp only [K.writes]; exact List.mem_cons_of_mem _ hz, .inr (.inr (by simp only; cases g z <;> rfl))⟩
  case bldQ a b =>
    split at h <;> try (cases h; done)
    split at h <;> cases h
    simp only [List.mem_cons, List.not_mem_nil, or_false] at hp
    rcases hp with rfl | rfl | rfl | rfl | rfl <;> exact ⟨by simp [K.writes], .inr (.inl rfl)⟩
  case stQ t z =>
    split at h <;> try (cases h; done)
    split at h <;> cases h
    simp only [List.mem_cons, List.not_mem_nil, or_false] at hp
    rcases hp with rfl | rfl | rfl | rfl | rfl | rfl <;> exact ⟨by simp [K.writes], .inr (.inl rfl)⟩
  case lgD p t i =>
    split at h <;> try (cases h; done)
    split at h <;> cases h
    simp only [List.mem_cons, List.not_mem_nil, or_false] at hp
    rcases hp with rfl | rfl <;> exact ⟨by simp [K.writes], .inr (.inl rfl)⟩
  case sgO t v ks =>
    split at h <;> try (cases h; done)
    split at h <;> cases h
    rcases List.mem_cons.1 hp with rfl | hp
    · exact ⟨by simp [K.writes], .inr (.inl rfl)⟩
    rcases List.mem_cons.1 hp with rfl | hp
    · exact ⟨by simp [K.writes], .inr (.inl rfl)⟩
    obtain ⟨z, hz, rfl⟩ := List.mem_map.1 hp
    exact ⟨by simp only [K.writes]; exact List.mem_cons_of_mem _ (List.mem_cons_of_mem _ hz), .inr (.inl rfl)⟩
  case sgP t v ks =>
    split at h <;> cases h
    rcases List.mem_cons.1 hp with rfl | hp
    · rename_i hk
      have h3 := hk.2.2.1
      refine ⟨by simp [K.writes], .inr (.inl ?_)⟩
      rfl
    rcases List.mem_cons.1 hp with rfl | hp
    · exact ⟨by simp [K.writes], .inr (.inl rfl)⟩
    obtain ⟨z, hz, rfl⟩ := List.mem_map.1 hp
    exact ⟨by simp only [K.writes]; exact List.mem_cons_of_mem _ (List.mem_cons_of_mem _ hz), .inr (.inl rfl)⟩
  case ext t i =>
    split at h <;> try (cases h; done)
    rw [Option.bind_eq_some_iff] at h
    obtain ⟨d, _, h⟩ := h
    split at h <;> cases h
    rename_i hd
    simp only [List.mem_cons, List.not_mem_nil, or_false] at hp; subst hp
    refine ⟨by simp [K.writes], .inr (.inl ?_)⟩
    cases d <;> first | rfl | simp [D.isPure] at hd
  case pick a b c =>
    (repeat' split at h) <;> try (cases h; done)
    all_goals
      rename_i hd
      cases h
      simp only [List.mem_cons, List.not_mem_nil, or_false] at hp; subst hp
      refine ⟨by simp [K.writes], .inr (.inl ?_)⟩
      simp only
      generalize PX.ev g _ = q at hd ⊢
      cases q <;> first | rfl | simp [D.isPure] at hd
  case ld ag m x =>
    split at h <;> try (cases h; done)
    rw [Option.map_eq_some_iff] at h
    obtain ⟨d, hd, rfl⟩ := h
    simp only [List.mem_cons, List.not_mem_nil, or_false] at hp; subst hp
    exact ⟨by simp [K.writes], .inr (.inl (ofCells_alias hd))⟩
  case ixA ag n m x i =>
    split at h <;> try (cases h; done)
    split at h <;> try (cases h; done)
    rw [Option.map_eq_some_iff] at h
    obtain ⟨d, hd, rfl⟩ := h
    simp only [List.mem_cons, List.not_mem_nil, or_false] at hp; subst hp
    exact ⟨by simp [K.writes], .inr (.inl (ofCells_alias hd))⟩
  case fld ag off m x =>
    split at h <;> try (cases h; done)
    rw [Option.map_eq_some_iff] at h
    obtain ⟨d, hd, rfl⟩ := h
    simp only [List.mem_cons, List.not_mem_nil, or_false] at hp; subst hp
    exact ⟨by simp [K.writes], .inr (.inl (ofCells_alias hd))⟩
  all_goals first
    | (cases h; done)
    | ((try rw [Option.map_eq_some_iff] at h); (try obtain ⟨_, _, rfl⟩ := h); (try cases h); simp only [List.mem_cons, List.not_mem_nil, or_false] at hp; subst hp; exact ⟨by simp [K.writes], .inr (.inl rfl)⟩)
    | ((repeat' split at h) <;> first
        | (cases h; done)
        | ((try rw [Option.map_eq_some_iff] at h); (try obtain ⟨_, _, rfl⟩ := h); (try cases h); simp only [List.mem_cons, List.not_mem_nil, or_false] at hp; subst hp; exact ⟨by simp [K.writes], .inr (.inl rfl)⟩))

end Go.Pi
