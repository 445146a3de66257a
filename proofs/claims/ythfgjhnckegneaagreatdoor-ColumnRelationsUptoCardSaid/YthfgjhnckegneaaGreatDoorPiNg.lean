/-
  BOXES THAT HOLD A SLICE OF THE CALL'S OWN: what such a box holds is a slot of its own (from GB on). Own work.
-/
import Derived.Test.YthfgjhnckegneaaGreatDoorPiN
namespace Go.Pi
open Go Go.RowKit

variable {P : Program} {n : Nz} {S0 S : Nat → Nat → Prop} {w0 w : World} {O : Nat → Option Nat} {g : G} {tm : Array Value} {o : Oper} {dst : Nat}

/-- what a ghost slot stands for is changed -/
theorem Inv.setGv (h : Inv P n S0 w0 S O g tm w) {G : Nat} (x : Value) (hG : GB ≤ G) (hu : g G = .un) (hal : ∀ t s, aliasOf (g t) = some s → s ≠ G) (hb : ∀ t, g t ≠ .gbox G) :
    Inv P { n with gv := fun z => if z = G then x else n.gv z } S0 w0 S O g tm w where
  size := h.size
  below := h.below
  sub := h.sub
  sup := h.sup
  ex := h.ex
  inj := h.inj
  base := h.base
  fix := h.fix
  keep := h.keep
  nb := h.nb
  gh := h.gh
  slot := fun t => by
    have hs := h.slot t
    have eq : ∀ z, z ≠ G → tmOf (fun z => if z = G then x else n.gv z) tm z = tmOf n.gv tm z := fun z hz => by
      unfold tmOf; split
      · rfl
      · simp [hz]
    by_cases ht : t = G
    · subst ht; rw [hu] at hs ⊢; exact hs
    · have e := eq t ht
      have ha := hal t
      have hbt := hb t
      cases hg : g t <;> simp only [hg, SR, aliasOf] at hs ha hbt ⊢
      all_goals first
        | exact hs
        | (rw [e]; exact hs)
        | skip
      · rename_i s
        exact ⟨hs.1, by rw [e, hs.2, eq s (ha s rfl)]⟩
      · rename_i G'
        obtain ⟨b, ty, h1, h2, h3, h4, h5⟩ := hs
        exact ⟨b, ty, h1, by rw [e]; exact h2, by rw [eq G' (fun z => hbt (by rw [z]))]; exact h3, h4, h5⟩

/-- no slot but t is the box of GB + t -/
theorem Inv.gboxOf (h : Inv P n S0 w0 S O g tm w) {t z : Nat} (hz : g z = .gbox (GB + t)) : z = t := by
  have := h.slot z
  rw [hz] at this
  obtain ⟨_, _, _, _, _, _, _, _, h6⟩ := this
  omega

theorem constOk_slN {v : Value} (h : constOk v (.sl 0 [.un]) = true) : v = .slice none 0 0 := by
  unfold constOk at h
  split at h <;> simp_all

theorem GB_ne : GB ≠ 0 := by unfold GB; omega

theorem sound_alG (e : TypeId) : Sound P (.alG e) := by
  intro n S0 S w0 w O g tm o dst l hI hc hrd hdst hrun hal
  simp only [chkOp] at hc
  split at hc <;> try (cases hc; done)
  rename_i t hop
  simp only [Bool.and_eq_true] at hc
  obtain ⟨hz, hu⟩ := hc
  split at hu <;> try (cases hu; done)
  rename_i e' hue
  simp only [beq_iff_eq] at hu
  subst hu
  simp only [K.run] at hrun
  cases hrun
  obtain ⟨i, v, hi, hv, hz, h3, h4, h5⟩ := zeroOk_spec hz
  have hcells : v.cells = #[.slice none 0 0] := by
    have hl : v.cells.toList.length = 1 := by simpa using h5
    match hq : v.cells.toList, hl with
    | [x], _ =>
      rw [hq] at hz
      simp only [constsOk, Bool.and_true] at hz
      have := constOk_slN ((Bool.and_eq_true _ _).mp hz).1
      subst this
      apply Array.ext'
      simp [hq]
  have hlt := hI.has hdst
  have hne : dst ≠ GB + dst := by omega
  simp only [K.kills] at hal
  have hexec : (execOp (rho tm) o).run P w = .ok (.value (.pointer (some ⟨w.heap.size, 0, none⟩))) (w.alloc (.cells #[.slice none 0 0] t)) := by
    simp [execOp, hop, Instr.alloc, zeroValue, typeInfo, hi, hv, newVar, newRow, hcells]
  refine ⟨_, _, hexec, ?_⟩
  have h1 := (hI.ext (hI.extRefl.alloc hI.below.size (.cells #[.slice none 0 0] t))).drops [dst, GB + dst] (fun t' s h1 h2 => by simpa using hal t' s h1 (by simpa using h2))
  have hna : ∀ t' s, aliasOf (if t' ∈ [dst, GB + dst] then D.un else g t') = some s → s ≠ dst ∧ s ≠ GB + dst := fun t' s h2 => by
    split at h2
    · cases h2
    · rename_i hn
      exact ⟨fun e => hn (by simpa using hal t' s h2 (by simp [e])), fun e => hn (by simpa using hal t' s h2 (by simp [e]))⟩
  have h2 := h1.touch (t := dst) (.pointer (some ⟨w.heap.size, 0, none⟩)) hdst.2 (by simp) (fun t' s h => (hna t' s h).1)
  have h3 := h2.setGv (G := GB + dst) (.slice none 0 0) (by omega) (by simp) (fun t' s h => (hna t' s h).2) (fun z hz => by
    split at hz
    · cases hz
    · rename_i hn
      have := hI.gboxOf hz
      subst this
      simp at hn)
  have h4 := h3.put (O' := fun z => if z ∈ [dst, GB + dst] then none else O z) (t := GB + dst) (d := .own true e 0 []) (fun z hz => rfl) (by simp) (fun t' s h => (hna t' s h).2) (fun b hb => by simp at hb)
    (.inl ⟨by simp, by rw [tmOf_ge (by omega)]; simp, rfl, rfl⟩) (.inr rfl)
  have h5 := h4.put (O' := fun z => if z = dst then some w.heap.size else if z ∈ [dst, GB + dst] then none else O z) (t := dst) (d := .gbox (GB + dst)) (fun z hz => by simp [hz]) (by simp [upd, hne, GB_ne]) (fun t' s h => by
      unfold upd at h
      split at h
      · cases h
      · exact (hna t' s h).1)
    (fun b hb => by
      simp at hb; subst hb
      refine ⟨hI.below.size, by simp, fun t' h => ?_⟩
      split at h
      · cases h
      · have := (hI.base t' _ h).2; omega)
    ⟨w.heap.size, t, by simp, by rw [tmOf_lt hlt]; simp [hI.size, hdst.1], by rw [tmOf_ge (by omega)]; simp only [if_true]; exact heap_new w _, fun j => hI.noNew j, by omega, hlt, rfl⟩ (.inl hlt)
  have eg : upds g [(dst, .gbox (GB + dst)), (GB + dst, .own true e 0 [])] = upd (upd (fun t' => if t' ∈ [dst, GB + dst] then D.un else g t') (GB + dst) (.own true e 0 [])) dst (.gbox (GB + dst)) := by
    funext z
    simp only [upds, upd]
    by_cases z1 : z = dst
    · subst z1; simp [hne, hne.symm, GB_ne]
    · by_cases z2 : z = GB + dst
      · subst z2; simp [hne, hne.symm, GB_ne]
      · simp [z1, z2]
  rw [eg]
  exact ⟨_, _, _, h5⟩

theorem sound_lg (t : Nat) : Sound P (.lg t) := by
  intro n S0 S w0 w O g tm o dst l hI hc hrd hdst hrun hal
  simp only [chkOp] at hc
  split at hc <;> try (cases hc; done)
  rename_i ty t' hop
  simp only [Bool.and_eq_true, beq_iff_eq, decide_eq_true_eq] at hc
  obtain ⟨⟨⟨⟨rfl, htg⟩, h2⟩, h3⟩, h4⟩ := hc
  have ht : t ≠ dst := fun e => hrd (by simp [K.reads, e])
  have hs := hI.slot t
  simp only [K.run] at hrun
  split at hrun
  · rename_i G hg
    split at hrun <;> cases hrun
    rename_i hG
    subst hG
    rw [hg] at hs
    obtain ⟨b, e, q1, q2, q3, q4, q5, _⟩ := hs
    rw [tmOf_lt htg] at q2
    have hld := run_loadVar (P := P) (w := w) (vs := [tmOf n.gv tm (GB + t)]) (b := b) (off := 0) h2 (by rw [h3]; rfl) h4 (fun j v hj => by
      match j with
      | 0 => simp at hj; subst hj; simp [World.cell?, q3]
      | j + 1 => simp at hj) (fun _ => rfl)
    have hlt := hI.has hdst
    refine ⟨tmOf n.gv tm (GB + t), w, ?_, _, _, _, hI.setAl rfl (by omega) hdst (fun t' s h1 h2 => by simpa [K.kills] using hal t' s h1 (by simpa [K.kills] using h2))⟩
    have e1 : rho tm (.tmp t) = .pointer (some ⟨b, 0, none⟩) := q2
    simp [execOp, hop, e1, Instr.loadAt, Instr.sureAddr, hld]
  · rename_i wr d hg
    split at hrun <;> cases hrun
    rename_i hd
    rw [hg] at hs
    simp only [SR, OwnR] at hs
    obtain ⟨b, arr, e, q1, q2, q3, q4, _⟩ := hs
    rw [tmOf_lt htg] at q2
    obtain ⟨x, xs, hxe, r1, r2⟩ := q4.uncons
    have hxs : xs = [] := by cases xs with | nil => rfl | cons _ _ => have := r2.1; simp at this
    subst hxs
    have hld := run_loadVar (P := P) (w := w) (vs := [x]) (b := b) (off := 0) h2 (by rw [h3]; rfl) h4 (fun j v hj => by
      match j with
      | 0 =>
        simp at hj; subst hj
        have : arr[0]? = some x := by
          have : arr.toList[0]? = some x := by rw [hxe]; rfl
          simpa using this
        simp [World.cell?, q3, this]
      | j + 1 => simp at hj) (fun _ => rfl)
    refine hI.val hdst (by simpa [K.kills] using hal) (v := x) r1 ?_
    have e1 : rho tm (.tmp t) = .pointer (some ⟨b, 0, none⟩) := q2
    simp [execOp, hop, e1, Instr.loadAt, Instr.sureAddr, hld]
  · cases hrun

/-- a box of one cell: its block -/
theorem Inv.box1 (hI : Inv P n S0 w0 S O g tm w) {t : Nat} (h : isBox1 (g t) = true) (htg : t < GB) :
    ∃ b arr e, O t = some b ∧ tm.getD t undef = .pointer (some ⟨b, 0, none⟩) ∧ w.heap[b]? = some (.cells arr e (0, 0)) ∧ arr.size = 1 ∧ ∀ j, ¬ S b j := by
  have hs := hI.slot t
  unfold isBox1 at h
  split at h <;> try (cases h; done)
  · rename_i G hg
    rw [hg] at hs
    obtain ⟨b, e, q1, q2, q3, q4, _⟩ := hs
    rw [tmOf_lt htg] at q2
    exact ⟨b, _, e, q1, q2, q3, rfl, q4⟩
  · rename_i d hg
    rw [hg] at hs
    simp only [SR, OwnR] at hs
    obtain ⟨b, arr, e, q1, q2, q3, q4, _, q6, _⟩ := hs
    rw [tmOf_lt htg] at q2
    exact ⟨b, arr, e, q1, q2, q3, by have := q4.1; simpa using this.symm, fun j hj => by cases (q6 j hj).1⟩

/-- the block of a box gets a value -/
theorem exec_store1 {t b : Nat} {ty e : TypeId} {y : Operand} {arr : Array Value} (hop : o.op = .store ty (.tmp t) y) (h3 : P.cellsOf ty = 1) (h4 : (P.info? ty).isSome = true)
    (q2 : tm.getD t undef = .pointer (some ⟨b, 0, none⟩)) (q3 : w.heap[b]? = some (.cells arr e (0, 0))) (q4 : arr.size = 1) (h1 : (rho tm y).oneCell' = true) (hc : (rho tm y).cells = #[rho tm y]) :
    (execOp (rho tm) o).run P w = .ok .skip (w.setRow b #[rho tm y]) := by
  have hex := run_storeCells_at P b 0 e (rho tm y).cells.toList 0 arr w q3 (by rw [hc]; simp [q4]) (fun u hu => by rw [hc] at hu; simp at hu; rw [hu]; exact h1)
  have e1 : rho tm (.tmp t) = .pointer (some ⟨b, 0, none⟩) := q2
  have hr : (arr.toList.take 0 ++ (rho tm y).cells.toList ++ arr.toList.drop (0 + (rho tm y).cells.toList.length)).toArray = #[rho tm y] := by
    rw [hc]; simp [List.drop_eq_nil_of_le, q4]
  simp only [Nat.add_zero] at hex
  rw [hr] at hex
  have hsv : (storeVar ty ⟨b, 0, none⟩ (rho tm y)).run P w = .ok () (w.setRow b #[rho tm y]) := by
    unfold storeVar
    rw [Sem.run_bind, run_sizeOf h4]
    simp only [Result.andThen_ok]
    rw [if_neg (by rw [h3, hc]; simp)]
    simp [hex]
  simp [execOp, hop, e1, Instr.storeAt, Instr.sureAddr, hsv]

/-- a slot's block is turned while nobody holds it -/
theorem Inv.setRowFree (h : Inv P n S0 w0 S O g tm w) {b : Nat} {arr arr' : Array Value} {e : TypeId} (q3 : w.heap[b]? = some (.cells arr e (0, 0))) (hfree : ∀ t, O t ≠ some b) (hS : ∀ j, ¬ S b j) (h0 : w0.heap.size ≤ b) :
    Inv P n S0 w0 S O g tm (w.setRow b arr') :=
  h.world (fun t b' ht => setRow_other w b b' arr' (fun z => hfree t (z ▸ ht))) (fun b' j hs => cell_setRow_other w b arr' _ (fun z => hS j (by simp at z; subst z; exact hs)))
    (h.below.trans ⟨rfl, rfl, rfl, by rw [setRow_size]; exact Nat.le_refl _, fun k hk => setRow_other w b k arr' (fun z => by omega)⟩) (by rw [setRow_size]; exact Nat.le_refl _) (fun k q hk hq => by
      by_cases z : k = b
      · subst z; rw [q3] at hk; cases hk; cases hq
      · rw [setRow_other w b k arr' z]; exact hk)

theorem upds_un (l : List Nat) : ∀ g : G, upds g (l.map fun z => (z, .un)) = fun z => if z ∈ l then .un else g z := by
  induction l with
  | nil => intro g; funext z; simp [upds]
  | cons a l ih =>
    intro g
    simp only [List.map_cons, upds, ih]
    funext z
    by_cases h1 : z ∈ l
    · simp [h1]
    · by_cases h2 : z = a
      · subst h2; simp [upd]
      · simp [h1, h2, upd]

theorem notin_of_all {l : List Nat} {t : Nat} (h : l.all (fun z => z != t && z != GB + t) = true) : ∀ z ∈ l, z ≠ t ∧ z ≠ GB + t := fun z hz => by
  have := List.all_eq_true.1 h z hz
  simpa using this

/-- the slots t, GB + t and those of l, written in this order -/
theorem upds_box {t : Nat} {l : List Nat} (g : G) (a b : D) (h : ∀ z ∈ l, z ≠ t ∧ z ≠ GB + t) :
    upds g ((t, a) :: (GB + t, b) :: l.map fun z => (z, .un)) = upd (upd (fun z => if z ∈ t :: (GB + t) :: l then D.un else g z) (GB + t) b) t a := by
  have hne : t ≠ GB + t := by unfold GB; omega
  show upds (upd (upd g t a) (GB + t) b) (l.map fun z => (z, .un)) = _
  rw [upds_un]
  funext z
  by_cases h1 : z ∈ l
  · obtain ⟨h2, h3⟩ := h z h1
    simp [h1, h2, h3, upd]
  · by_cases h2 : z = t
    · subst h2; simp [h1, upd, hne, GB_ne]
    · by_cases h3 : z = GB + t
      · subst h3; simp [h1, upd, GB_ne]
      · simp [h1, h2, h3, upd]

theorem sound_sgP {t : Nat} {v : PX} {ks : List Nat} {l : List (Nat × D)} (hI : Inv P n S0 w0 S O g tm w) (hc : chkOp P o (.sgP t v ks) = true) (hrun : (K.sgP t v ks).run dst g = some l)
    (hal : ∀ z s, aliasOf (g z) = some s → s ∈ (K.sgP t v ks).kills dst → z ∈ (K.sgP t v ks).kills dst) : ∃ w', (execOp (rho tm) o).run P w = .ok .skip w' ∧ Good P n S0 w0 (upds g l) tm w' := by
  simp only [chkOp] at hc
  split at hc <;> try (cases hc; done)
  rename_i ty t' y hop
  simp only [Bool.and_eq_true, beq_iff_eq] at hc
  obtain ⟨⟨⟨rfl, hx⟩, h3⟩, h4⟩ := hc
  simp only [K.run] at hrun
  split at hrun <;> cases hrun
  rename_i hk
  obtain ⟨k1, k2, k3, k4, k5⟩ := hk
  have hrd := notin_of_all k5
  obtain ⟨b, arr, e, q1, q2, q3, q4, q5⟩ := hI.box1 k1 k2
  have hr := hI.opnd hx k3
  refine ⟨_, exec_store1 hop h3 h4 q2 q3 q4 (hr.oneCell k4) (hr.one_of k4), ?_⟩
  have hne : t ≠ GB + t := by unfold GB; omega
  rw [upds_box g _ _ hrd]
  simp only [K.kills] at hal
  have hna : ∀ z s1, aliasOf (if z ∈ t :: (GB + t) :: ks then D.un else g z) = some s1 → s1 ≠ t ∧ s1 ≠ GB + t := fun z s1 h => by
    split at h
    · cases h
    · rename_i hn
      exact ⟨fun e => hn (hal z s1 h (by simp [e])), fun e => hn (hal z s1 h (by simp [e]))⟩
  have h1 := hI.drops (t :: (GB + t) :: ks) hal
  have h2 := h1.setRowFree (arr' := #[rho tm y]) q3 (fun z hz => by
    split at hz
    · cases hz
    · rename_i hn; exact hn (by rw [hI.inj z t b hz q1]; simp)) q5 (hI.base t b q1).1
  have hlt : b < w.heap.size := (hI.base t b q1).2
  have e2 : upd (fun z => if z ∈ t :: (GB + t) :: ks then D.un else g z) (GB + t) .un = fun z => if z ∈ t :: (GB + t) :: ks then D.un else g z := by
    funext z
    simp only [upd]
    split
    · rename_i h; subst h; simp
    · rfl
  rw [e2]
  have h3' := h2.put (O' := fun z => if z = t then some b else if z ∈ t :: (GB + t) :: ks then none else O z) (t := t) (d := .box true [v.ev g]) (fun z hz => by simp [hz]) (by simp) (fun z s h => (hna z s h).1)
    (fun b' hb => by
      simp at hb; subst hb
      refine ⟨(hI.base t _ q1).1, by rw [setRow_size]; exact hlt, fun z hz => ?_⟩
      split at hz
      · cases hz
      · rename_i hn; exact hn (by rw [hI.inj z t _ hz q1]; simp))
    (by
      simp only [SR, OwnR]
      refine ⟨b, #[rho tm y], e, by simp, (tmOf_lt k2).trans q2, setRow_heap w b arr _ e (0, 0) q3, ?_, by simpa using k4, fun j hj => absurd hj (q5 j), fun hf => by cases hf⟩
      refine (Reps.cons hr .nil).mono (fun _ _ z => z) (fun b' j hs => cell_setRow_other w b _ _ (fun z => q5 j (by simp at z; subst z; exact hs)))) (.inl k2)
  exact ⟨_, _, _, h3'⟩

theorem sound_sgO {t : Nat} {v : PX} {ks : List Nat} {l : List (Nat × D)} (hI : Inv P n S0 w0 S O g tm w) (hc : chkOp P o (.sgO t v ks) = true) (hrun : (K.sgO t v ks).run dst g = some l)
    (hal : ∀ z s, aliasOf (g z) = some s → s ∈ (K.sgO t v ks).kills dst → z ∈ (K.sgO t v ks).kills dst) : ∃ w', (execOp (rho tm) o).run P w = .ok .skip w' ∧ Good P n S0 w0 (upds g l) tm w' := by
  simp only [chkOp] at hc
  split at hc <;> try (cases hc; done)
  rename_i ty t' y hop
  simp only [Bool.and_eq_true, beq_iff_eq] at hc
  obtain ⟨⟨⟨rfl, hx⟩, h3⟩, h4⟩ := hc
  simp only [K.run] at hrun
  split at hrun <;> try (cases hrun; done)
  rename_i hk
  obtain ⟨k1, k2, k3⟩ := hk
  have hrd := notin_of_all k3
  split at hrun <;> cases hrun
  rename_i s wr el m cs hs hev
  obtain ⟨b, arr, e, q1, q2, q3, q4, q5⟩ := hI.box1 k1 k2
  obtain ⟨s', r1, r2, r3⟩ := hI.opndOwn hx (by rw [hev]; rfl)
  rw [hs] at r1; cases r1
  rw [hev] at r2 r3
  obtain ⟨a0, c0, hv⟩ := r3.slice
  refine ⟨_, exec_store1 hop h3 h4 q2 q3 q4 (by rw [hv]; rfl) (by rw [hv]; rfl), ?_⟩
  have hne : t ≠ GB + t := by unfold GB; omega
  have hsr : s ∈ v.reads ++ ks := List.mem_append_left _ (PX.slot_reads hs)
  have hst := hrd s hsr
  rw [upds_box g _ _ hrd]
  simp only [K.kills] at hal
  generalize hks : v.reads ++ ks = kk at hal hsr hrd ⊢
  have hna : ∀ z s1, aliasOf (if z ∈ t :: (GB + t) :: kk then D.un else g z) = some s1 → s1 ≠ t ∧ s1 ≠ GB + t := fun z s1 h => by
    split at h
    · cases h
    · rename_i hn
      exact ⟨fun e => hn (hal z s1 h (by simp [e])), fun e => hn (hal z s1 h (by simp [e]))⟩
  have h1 := hI.drops (t :: (GB + t) :: kk) hal
  have h2 := h1.setRowFree (arr' := #[rho tm y]) q3 (fun z hz => by
    split at hz
    · cases hz
    · rename_i hn; exact hn (by rw [hI.inj z t b hz q1]; simp)) q5 (hI.base t b q1).1
  have h3' := h2.setGv (G := GB + t) (rho tm y) (by omega) (by simp) (fun z s1 h => (hna z s1 h).2) (fun z hz => by
    split at hz
    · cases hz
    · rename_i hn
      have := hI.gboxOf hz
      subst this
      simp at hn)
  have hlt : b < w.heap.size := (hI.base t b q1).2
  have hbs : ∀ bb, O s = some bb → bb ≠ b := fun bb h e => hst.1 (hI.inj s t b (e ▸ h) q1)
  have hown : OwnR P S (w.setRow b #[rho tm y]) (O s) (.own wr el m cs) (rho tm y) :=
    r3.grow (fun _ _ z => z) (fun _ _ _ z => z) (fun b' j hs => cell_setRow_other w b _ _ (fun z => q5 j (by simp at z; subst z; exact hs))) (fun bb h => setRow_other w b bb _ (hbs bb h))
  have h4' := h3'.put (O' := fun z => if z = GB + t then O s else if z ∈ t :: (GB + t) :: kk then none else O z) (t := GB + t) (d := .own wr el m cs) (fun z hz => by simp [hz]) (by simp) (fun z s1 h => (hna z s1 h).2)
    (fun bb hb => by
      simp only [if_true] at hb
      refine ⟨(hI.base s bb hb).1, by rw [setRow_size]; exact (hI.base s bb hb).2, fun z hz => ?_⟩
      split at hz
      · cases hz
      · rename_i hn; have := hI.inj z s bb hz hb; subst this; exact hn (by simp [hsr]))
    (by
      simp only [SR, if_true]
      rw [tmOf_ge (by omega)]
      simp only [if_true]
      exact hown) (.inr rfl)
  have h5' := h4'.put (O' := fun z => if z = t then some b else if z = GB + t then O s else if z ∈ t :: (GB + t) :: kk then none else O z) (t := t) (d := .gbox (GB + t)) (fun z hz => by simp [hz]) (by simp [upd, hne, GB_ne]) (fun z s1 h => by
      unfold upd at h
      split at h
      · cases h
      · exact (hna z s1 h).1)
    (fun b' hb => by
      simp at hb; subst hb
      refine ⟨(hI.base t _ q1).1, by rw [setRow_size]; exact hlt, fun z hz => ?_⟩
      split at hz
      · exact hbs _ hz rfl
      · split at hz
        · cases hz
        · rename_i hn; exact hn (by rw [hI.inj z t _ hz q1]; simp))
    ⟨b, e, by simp, (tmOf_lt k2).trans q2, by rw [tmOf_ge (by omega)]; simp only [if_true]; exact setRow_heap w b arr _ e (0, 0) q3, q5, by omega, k2, rfl⟩ (.inl k2)
  exact ⟨_, _, _, h5'⟩

end Go.Pi
