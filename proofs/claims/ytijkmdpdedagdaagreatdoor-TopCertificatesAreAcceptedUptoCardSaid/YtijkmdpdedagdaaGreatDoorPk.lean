/-
  FROM A ROW'S READING OF AN ARGUMENT TO DATA. Own work.
-/
import Derived.Test.YtijkmdpdedagdaaGreatDoorPi
import Derived.ChangeArms
import Derived.OpenShut
import Derived.Carry
set_option linter.unusedVariables false
set_option linter.unusedSimpArgs false
namespace Go.Pi
open Go Go.RowKit

/-- data of a type, its lengths at most N -/
inductive Sh (P : Program) (N : Nat) : TypeId → List D → Prop where
  | int {t : TypeId} (k : IntKind) (n : Int) (hu : P.underlying t = some (.int k)) (hn : (Lit.int k n).wf = true) : Sh P N t [.int k n]
  | bool {t : TypeId} (b : Bool) (hu : P.underlying t = some .bool) : Sh P N t [.bool b]
  | str {t : TypeId} (s : List UInt8) (hu : P.underlying t = some .string) (hs : s.length ≤ N) : Sh P N t [.str s]
  | sl {t e : TypeId} (rs : List (List D)) (hu : P.underlying t = some (.slice e)) (hl : rs.length ≤ N) (h : ∀ r ∈ rs, Sh P N e r) (hc : ∀ r ∈ rs, r.length = P.cellsOf e) : Sh P N t [.sl rs.length rs.flatten]
  | arr {t e : TypeId} {n : Nat} (rs : List (List D)) (hu : P.underlying t = some (.array n e)) (hl : rs.length = n) (h : ∀ r ∈ rs, Sh P N e r) (hc : ∀ r ∈ rs, r.length = P.cellsOf e) : Sh P N t rs.flatten
  | struct {t : TypeId} {fs : Array Field} (rs : List (List D)) (hu : P.underlying t = some (.struct fs)) (hl : rs.length = fs.size) (h : ∀ (i : Nat) (f : Field) (r : List D), fs[i]? = some f → rs[i]? = some r → Sh P N f.type r) (hc : ∀ (i : Nat) (f : Field) (r : List D), fs[i]? = some f → rs[i]? = some r → r.length = P.cellsOf f.type) :
      Sh P N t rs.flatten

/-- fields that lie one behind the other -/
def tiles (P : Program) : Nat → List Field → Nat → Bool
  | o, [], total => o == total
  | o, f :: r, total => f.offset == o && tiles P (o + P.cellsOf f.type) r total

def okTy (P : Program) : Nat → TypeId → Bool
  | 0, _ => false
  | n + 1, t => match P.underlying t with
    | some (.int _) | some .bool | some .string => true
    | some (.slice e) => okTy P n e && decide (0 < P.cellsOf e)
    | some (.array m e) => okTy P n e && m * P.cellsOf e == P.cellsOf t
    | some (.struct fs) => fs.toList.all (fun f => okTy P n f.type) && tiles P 0 fs.toList (P.cellsOf t)
    | _ => false

variable {H : Type} {enc : TypeId × Value → H} {P : Program} {W : World}

/-- what is asked of a measure of size -/
structure Bulk (B : DataW H → Nat) : Prop where
  len : ∀ elems spare, elems.length ≤ B (.slice elems spare)
  elem : ∀ elems spare d, d ∈ elems → B d ≤ B (.slice elems spare)
  part : ∀ parts d, d ∈ parts → B d ≤ B (.agg parts)
  str : ∀ s, s.length ≤ B (.lit (.string s))

def RS (W : World) : Nat → Nat → Prop := fun b _ => b < W.heap.size

theorem reps_flatten {S : Nat → Nat → Prop} {w : World} : ∀ {rs : List (List D)} {vs : List (List Value)}, rs.length = vs.length → (∀ (i : Nat) (r : List D) (v : List Value), rs[i]? = some r → vs[i]? = some v → Reps S w r v) → Reps S w rs.flatten vs.flatten
  | [], [], _, _ => .nil
  | [], _ :: _, h, _ => by simp at h
  | _ :: _, [], h, _ => by simp at h
  | r :: rs, v :: vs, h, hh => by
    simp only [List.flatten_cons]
    exact (hh 0 r v rfl rfl).app (reps_flatten (by simpa using h) fun i r' v' h1 h2 => hh (i + 1) r' v' (by simpa using h1) (by simpa using h2))

theorem chunks (sz : Nat) : ∀ (n : Nat) (cs : List Value), cs.length = n * sz → ((List.range n).map fun i => (cs.drop (i * sz)).take sz).flatten = cs
  | 0, cs, h => by simp at h; simp [h]
  | n + 1, cs, h => by
    rw [List.range_succ_eq_map, List.map_cons, List.flatten_cons, List.map_map]
    have := chunks sz n (cs.drop sz) (by rw [List.length_drop, h, Nat.succ_mul]; omega)
    have e : ((List.range n).map ((fun i => List.take sz (List.drop (i * sz) cs)) ∘ Nat.succ)) = (List.range n).map fun i => ((cs.drop sz).drop (i * sz)).take sz := by
      apply List.map_congr_left
      intro i _
      simp only [Function.comp, Nat.succ_mul, List.drop_drop]
      rw [Nat.add_comm]
    rw [e, this]
    simp

theorem tiled : ∀ (fs : List Field) (o : Nat) (cs : List Value), tiles P o fs cs.length = true → (fs.map fun f => (cs.drop f.offset).take (P.cellsOf f.type)).flatten = cs.drop o
  | [], o, cs, h => by
    simp only [tiles, beq_iff_eq] at h
    simp [h]
  | f :: fs, o, cs, h => by
    simp only [tiles, Bool.and_eq_true, beq_iff_eq] at h
    obtain ⟨rfl, h⟩ := h
    rw [List.map_cons, List.flatten_cons, tiled fs _ cs h, ← List.drop_drop]
    exact List.take_append_drop _ _

theorem tiles_le : ∀ (fs : List Field) (o total : Nat), tiles P o fs total = true → o ≤ total ∧ ∀ f ∈ fs, f.offset + P.cellsOf f.type ≤ total
  | [], o, total, h => by simp only [tiles, beq_iff_eq] at h; exact ⟨by omega, fun f hf => by cases hf⟩
  | f :: fs, o, total, h => by
    simp only [tiles, Bool.and_eq_true, beq_iff_eq] at h
    obtain ⟨rfl, h⟩ := h
    obtain ⟨h1, h2⟩ := tiles_le fs _ total h
    refine ⟨by omega, fun g hg => ?_⟩
    rcases List.mem_cons.1 hg with rfl | hg
    · exact h1
    · exact h2 g hg

theorem spot_of_cell {w : World} {a : Addr} {v : Value} (h : w.cell? a = some v) : a.spot = none ∧ a.block < w.heap.size := by
  unfold World.cell? at h
  split at h
  · rename_i c e f hb
    split at h
    · cases h
    · rename_i hs
      refine ⟨by cases hq : a.spot <;> simp [hq] at hs ⊢, (Array.getElem?_eq_some_iff.1 hb).1⟩
  · cases h
theorem lists_of {α β : Type} {R : α → β → Prop} : ∀ {l : List α}, (∀ a ∈ l, ∃ b, R a b) → ∃ bs : List β, bs.length = l.length ∧ ∀ (i : Nat) (a : α) (b : β), l[i]? = some a → bs[i]? = some b → R a b
  | [], _ => ⟨[], rfl, fun i a b h => by simp at h⟩
  | a :: l, h => by
    obtain ⟨b, hb⟩ := h a (List.mem_cons_self ..)
    obtain ⟨bs, h1, h2⟩ := lists_of (l := l) fun a ha => h a (List.mem_cons_of_mem _ ha)
    refine ⟨b :: bs, by simp [h1], fun i a' b' ha hb' => ?_⟩
    cases i with
    | zero => simp at ha hb'; subst ha; subst hb'; exact hb
    | succ i => exact h2 i a' b' (by simpa using ha) (by simpa using hb')

theorem flatten_get {α : Type} {sz : Nat} (h0 : 0 < sz) : ∀ (ls : List (List α)) (i : Nat), (∀ c ∈ ls, c.length = sz) → ls.flatten[i]? = (ls[i / sz]?).bind fun c => c[i % sz]?
  | [], i, _ => by simp
  | c :: ls, i, h => by
    have hc := h c (List.mem_cons_self ..)
    rw [List.flatten_cons]
    by_cases hi : i < sz
    · rw [List.getElem?_append_left (by omega), Nat.div_eq_of_lt hi, Nat.mod_eq_of_lt hi]; rfl
    · rw [List.getElem?_append_right (by omega), hc, flatten_get h0 ls (i - sz) fun c hc => h c (List.mem_cons_of_mem _ hc)]
      have e1 : i / sz = (i - sz) / sz + 1 := by rw [Nat.div_eq_sub_div h0 (by omega)]
      have e2 : i % sz = (i - sz) % sz := Nat.mod_eq_sub_mod (by omega)
      rw [e1, e2, List.getElem?_cons_succ]

/-- THE READING OF AN ARGUMENT AS DATA -/
theorem reps_of_trod {B : DataW H → Nat} (hB : Bulk B) {base : Nat} {sp : Nat → Bool} {held : Bool} {N : Nat} : ∀ (k : Nat) (t : TypeId) (fuel : Nat) (cs : List Value) (x : DataW H × List MemPlace), okTy P k t = true →
    DataW.trod enc P W base sp held fuel t cs = some x → B x.1 ≤ N → ∃ ds, Reps (RS W) W ds cs ∧ (∀ d ∈ ds, d.one = true) ∧ Sh P N t ds := by
  intro k
  induction k with
  | zero => intro t fuel cs x hk; cases hk
  | succ k ih =>
    intro t fuel cs x hk h hN
    unfold okTy at hk
    split at hk
    · rename_i kk hu
      obtain ⟨n, rfl, rfl, hw⟩ := DataW.trod_int hu h
      exact ⟨[.int kk n], .cons (.int _ _) .nil, by simp [D.one], .int kk n hu hw⟩
    · rename_i hu
      obtain ⟨b, rfl, rfl⟩ := DataW.trod_bool hu h
      exact ⟨[.bool b], .cons (.bool _) .nil, by simp [D.one], .bool b hu⟩
    · rename_i hu
      obtain ⟨s, rfl, rfl, hs⟩ := DataW.trod_string hu h
      have e : (⟨s.data.toList.toArray⟩ : ByteArray) = s := by simp
      have r : Rep (RS W) W (.str s.data.toList) (.string ⟨s.data.toList.toArray⟩) := .str _ (by simpa using hs)
      rw [e] at r
      exact ⟨[.str s.data.toList], .cons r .nil, by simp [D.one], .str _ hu (Nat.le_trans (hB.str _) hN)⟩
    · rename_i e hu
      simp only [Bool.and_eq_true, decide_eq_true_eq] at hk
      obtain ⟨hk, hsz⟩ := hk
      rcases DataW.trod_slice hu h with ⟨rfl, rfl⟩ | ⟨a, len, cap, elems, rest, n, rfl, rfl, rfl, hb, hlc, hcm, hlen, hel, _, _⟩
      · exact ⟨[.sl 0 []], .cons (.sl0 none 0 (Nat.zero_le _)) .nil, by simp [D.one], .sl [] hu (Nat.zero_le _) (fun r hr => by cases hr) (fun r hr => by cases hr)⟩
      · have each : ∀ i ∈ List.range len, ∃ q : List D × List Value, Reps (RS W) W q.1 q.2 ∧ (∀ d ∈ q.1, d.one = true) ∧ Sh P N e q.1 ∧ q.2.length = P.cellsOf e ∧ ∀ j, j < P.cellsOf e → W.cell? ((a.add (i * P.cellsOf e)).add j) = q.2[j]? := by
          intro i hi
          have hi' : i < len := List.mem_range.1 hi
          have h1 := hel i hi'
          have hx : elems[i]? = some (elems[i]'(by omega)) := List.getElem?_eq_getElem (by omega)
          rw [hx, Option.bind_eq_some_iff] at h1
          obtain ⟨csi, h2, h3⟩ := h1
          obtain ⟨_, h4, h5⟩ := World.cells?_some h2
          have hBi : B (elems[i]'(by omega)).1 ≤ N := Nat.le_trans (hB.elem _ (rest.map (·.1)) _ (List.mem_map.2 ⟨_, List.getElem_mem (by omega), rfl⟩)) hN
          obtain ⟨ds, r1, r2, r3⟩ := ih e n csi _ hk h3 hBi
          exact ⟨(ds, csi), r1, r2, r3, h4, h5⟩
        obtain ⟨qs, hq1, hq2⟩ := lists_of each
        rw [List.length_range] at hq1
        have hq : ∀ (i : Nat) (q : List D × List Value), qs[i]? = some q → Reps (RS W) W q.1 q.2 ∧ (∀ d ∈ q.1, d.one = true) ∧ Sh P N e q.1 ∧ q.2.length = P.cellsOf e ∧ ∀ j, j < P.cellsOf e → W.cell? ((a.add (i * P.cellsOf e)).add j) = q.2[j]? := fun i q hiq => by
          have hi : i < qs.length := (List.getElem?_eq_some_iff.1 hiq).1
          exact hq2 i i q (by rw [List.getElem?_range (by omega)]) hiq
        have hmem : ∀ q ∈ qs, ∃ i : Nat, qs[i]? = some q := fun q hm => List.getElem?_of_mem hm
        have hone : ∀ d ∈ (qs.map (·.1)).flatten, d.one = true := fun d hd => by
          obtain ⟨l, hl, hd⟩ := List.mem_flatten.1 hd
          obtain ⟨q, hqm, rfl⟩ := List.mem_map.1 hl
          obtain ⟨i, hi⟩ := hmem q hqm
          exact (hq i q hi).2.1 d hd
        have hreps : Reps (RS W) W (qs.map (·.1)).flatten (qs.map (·.2)).flatten := reps_flatten (by simp) fun i r v hr hv => by
          rw [List.getElem?_map, Option.map_eq_some_iff] at hr hv
          obtain ⟨q, hqi, rfl⟩ := hr
          obtain ⟨q', hqi', rfl⟩ := hv
          rw [hqi] at hqi'; cases hqi'
          exact (hq i q hqi).1
        have hN' : (qs.map (·.1)).length ≤ N := by
          rw [List.length_map, hq1]
          have := hB.len (elems.map (·.1)) (rest.map (·.1))
          rw [List.length_map, hlen] at this
          exact Nat.le_trans this hN
        refine ⟨[.sl (qs.map (·.1)).length (qs.map (·.1)).flatten], .cons ?_ .nil, by simp [D.one], .sl _ hu hN' (fun r hr => ?_) (fun r hr => ?_)⟩
        · rw [List.length_map, hq1]
          by_cases h0 : len = 0
          · subst h0
            have : qs = [] := List.eq_nil_of_length_eq_zero hq1
            subst this
            exact .sl0 _ _ hcm
          · have hq0 : qs[0]? = some (qs[0]'(by omega)) := List.getElem?_eq_getElem (by omega)
            have hc0 := (hq 0 _ hq0).2.2.2.2 0 hsz
            have hl0 := (hq 0 _ hq0).2.2.2.1
            rw [List.getElem?_eq_getElem (by omega)] at hc0
            obtain ⟨hs1, hs2⟩ := spot_of_cell hc0
            have hsp : a.spot = none ∧ a.block < W.heap.size := by
              unfold Addr.add at hs1 hs2
              cases hqq : a.spot <;> simp [hqq] at hs1 hs2 ⊢ <;> exact hs2
            obtain ⟨b, off, spot⟩ := a
            simp only at hsp
            obtain ⟨rfl, hbl⟩ := hsp
            refine .sl len _ b off cap _ hreps.1 hone hlc hcm (fun i v hi => ⟨hbl, ?_⟩) hreps.2
            rw [flatten_get hsz _ i (fun c hc => by
              obtain ⟨q, hqm, rfl⟩ := List.mem_map.1 hc
              obtain ⟨j, hj⟩ := hmem q hqm
              exact (hq j q hj).2.2.2.1), Option.bind_eq_some_iff] at hi
            obtain ⟨c, hc, hcv⟩ := hi
            rw [List.getElem?_map, Option.map_eq_some_iff] at hc
            obtain ⟨q, hqi, rfl⟩ := hc
            have := (hq _ q hqi).2.2.2.2 (i % P.cellsOf e) (Nat.mod_lt _ hsz)
            rw [Addr.addL, Addr.addL, hcv] at this
            rw [← this]
            congr 2
            rw [Nat.add_assoc, Nat.mul_comm (i / P.cellsOf e), Nat.div_add_mod]
        · obtain ⟨q, hqm, rfl⟩ := List.mem_map.1 hr
          obtain ⟨j, hj⟩ := hmem q hqm
          exact (hq j q hj).2.2.1
        · obtain ⟨q, hqm, rfl⟩ := List.mem_map.1 hr
          obtain ⟨j, hj⟩ := hmem q hqm
          rw [(hq j q hj).1.1]; exact (hq j q hj).2.2.2.1
    · rename_i m e hu
      simp only [Bool.and_eq_true, beq_iff_eq] at hk
      obtain ⟨hk, hsz⟩ := hk
      obtain ⟨xs, n, rfl, rfl, hcl, hxl, hel⟩ := DataW.trod_array hu h
      have each : ∀ i ∈ List.range m, ∃ ds : List D, Reps (RS W) W ds ((cs.drop (i * P.cellsOf e)).take (P.cellsOf e)) ∧ (∀ d ∈ ds, d.one = true) ∧ Sh P N e ds ∧ ((cs.drop (i * P.cellsOf e)).take (P.cellsOf e)).length = P.cellsOf e := by
        intro i hi
        have hi' : i < m := List.mem_range.1 hi
        have h1 := hel i hi'
        rw [List.getElem?_eq_getElem (show i < xs.length by omega)] at h1
        obtain ⟨ds, r1, r2, r3⟩ := ih e n _ _ hk h1 (Nat.le_trans (hB.part _ _ (List.mem_map.2 ⟨_, List.getElem_mem _, rfl⟩)) hN)
        refine ⟨ds, r1, r2, r3, ?_⟩
        rw [List.length_take, List.length_drop, hcl, ← hsz]
        have : i * P.cellsOf e + P.cellsOf e ≤ m * P.cellsOf e := by rw [← Nat.succ_mul]; exact Nat.mul_le_mul_right _ hi'
        omega
      obtain ⟨qs, hq1, hq2⟩ := lists_of each
      rw [List.length_range] at hq1
      have hch := chunks (P.cellsOf e) m cs (by rw [hcl, hsz])
      have hreps := reps_flatten (S := RS W) (w := W) (rs := qs) (vs := (List.range m).map fun i => (cs.drop (i * P.cellsOf e)).take (P.cellsOf e)) (by simp [hq1]) fun i r v hr hv => by
        rw [List.getElem?_map, Option.map_eq_some_iff] at hv
        obtain ⟨j, hj, rfl⟩ := hv
        exact (hq2 i j r hj hr).1
      rw [hch] at hreps
      have hat : ∀ r ∈ qs, ∃ i, i < m ∧ qs[i]? = some r := fun r hr => by
        obtain ⟨i, hi⟩ := List.getElem?_of_mem hr
        exact ⟨i, by rw [← hq1]; exact (List.getElem?_eq_some_iff.1 hi).1, hi⟩
      refine ⟨_, hreps, fun d hd => ?_, .arr qs hu hq1 (fun r hr => ?_) (fun r hr => ?_)⟩
      · obtain ⟨r, hr, hd⟩ := List.mem_flatten.1 hd
        obtain ⟨i, hi, hr⟩ := hat r hr
        exact (hq2 i i r (by rw [List.getElem?_range hi]) hr).2.1 d hd
      · obtain ⟨i, hi, hr⟩ := hat r hr
        exact (hq2 i i r (by rw [List.getElem?_range hi]) hr).2.2.1
      · obtain ⟨i, hi, hr⟩ := hat r hr
        have := hq2 i i r (by rw [List.getElem?_range hi]) hr
        rw [this.1.1]; exact this.2.2.2
    · rename_i fs hu
      simp only [Bool.and_eq_true, List.all_eq_true] at hk
      obtain ⟨hk, htl⟩ := hk
      obtain ⟨xs, n, rfl, rfl, hcl, hxl, hel⟩ := DataW.trod_struct hu h
      have htile := tiled (P := P) fs.toList 0 cs (by rw [hcl]; exact htl)
      have each : ∀ i ∈ List.range fs.size, ∃ ds : List D, ∀ f, fs[i]? = some f → Reps (RS W) W ds ((cs.drop f.offset).take (P.cellsOf f.type)) ∧ (∀ d ∈ ds, d.one = true) ∧ Sh P N f.type ds := by
        intro i hi
        have hi' : i < fs.size := List.mem_range.1 hi
        have hf : fs[i]? = some fs[i] := Array.getElem?_eq_getElem hi'
        have h1 := hel i _ hf
        rw [List.getElem?_eq_getElem (show i < xs.length by omega)] at h1
        obtain ⟨ds, r1, r2, r3⟩ := ih _ n _ _ (hk _ (by simp)) h1 (Nat.le_trans (hB.part _ _ (List.mem_map.2 ⟨_, List.getElem_mem _, rfl⟩)) hN)
        exact ⟨ds, fun f hf' => by rw [hf] at hf'; cases hf'; exact ⟨r1, r2, r3⟩⟩
      obtain ⟨qs, hq1, hq2⟩ := lists_of each
      rw [List.length_range] at hq1
      have hreps := reps_flatten (S := RS W) (w := W) (rs := qs) (vs := fs.toList.map fun f => (cs.drop f.offset).take (P.cellsOf f.type)) (by simp [hq1]) fun i r v hr hv => by
        rw [List.getElem?_map, Option.map_eq_some_iff] at hv
        obtain ⟨f, hf, rfl⟩ := hv
        have hi : i < fs.size := by rw [← hq1]; exact (List.getElem?_eq_some_iff.1 hr).1
        exact (hq2 i i r (by rw [List.getElem?_range hi]) hr f (by simpa using hf)).1
      rw [htile, List.drop_zero] at hreps
      refine ⟨_, hreps, fun d hd => ?_, .struct qs hu hq1 (fun i f r hf hr => ?_) (fun i f r hf hr => ?_)⟩
      · obtain ⟨r, hr, hd⟩ := List.mem_flatten.1 hd
        obtain ⟨i, hi⟩ := List.getElem?_of_mem hr
        have hi2 : i < fs.size := by rw [← hq1]; exact (List.getElem?_eq_some_iff.1 hi).1
        exact (hq2 i i r (by rw [List.getElem?_range hi2]) hi _ (Array.getElem?_eq_getElem hi2)).2.1 d hd
      · have hi2 : i < fs.size := (Array.getElem?_eq_some_iff.1 hf).1
        exact (hq2 i i r (by rw [List.getElem?_range hi2]) hr f hf).2.2
      · have hi2 : i < fs.size := (Array.getElem?_eq_some_iff.1 hf).1
        have hr1 := (hq2 i i r (by rw [List.getElem?_range hi2]) hr f hf).1.1
        have hm : f ∈ fs.toList := by
          have : fs.toList[i]? = some f := by simpa using hf
          exact List.mem_of_getElem? this
        have := (tiles_le _ _ _ htl).2 f hm
        rw [hr1, List.length_take, List.length_drop, hcl]
        omega
    · cases hk
end Go.Pi
