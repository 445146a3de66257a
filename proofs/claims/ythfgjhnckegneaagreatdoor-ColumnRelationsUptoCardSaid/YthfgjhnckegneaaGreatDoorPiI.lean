/-
  THE PROOFS, second part: equality of structs; values that are handed on. Own work.
-/
import Derived.Test.YthfgjhnckegneaaGreatDoorPiH
import Derived.Laws.StructEq
namespace Go.Pi
open Go Go.RowKit

variable {P : Program} {n : Nz} {S0 S : Nat → Nat → Prop} {w0 w : World} {O : Nat → Option Nat} {g : G} {tm : Array Value} {o : Oper} {dst : Nat}

theorem sound_eqb (neg : Bool) (x y : PX) : Sound P (.eqb neg x y) := by
  intro n S0 S w0 w O g tm o dst l hI hc hrd hdst hrun hal
  simp only [chkOp] at hc
  split at hc <;> try (cases hc; done)
  rename_i op t a b yt hop
  simp only [Bool.and_eq_true] at hc
  obtain ⟨⟨⟨h1, h2⟩, h3⟩, h4⟩ := hc
  simp only [K.run] at hrun
  split at hrun <;> try (cases hrun; done)
  rename_i a' b' ha hb
  cases hrun
  refine hI.val hdst (by simpa [K.kills] using hal) (.bool _) ?_
  have e1 := hI.boolOf h2 ha
  have e2 := hI.boolOf h3 hb
  have e3 := run_equal_bool (P := P) w t a' b' (isBool_iff h4)
  have hq : op = if neg then .neq else .eql := by cases neg <;> simpa using h1
  cases neg <;> simp only [if_true, Bool.false_eq_true, if_false] at hq ⊢ <;> subst hq <;> simp [execOp, hop, e1, e2, eqGuard, binOp, e3]

theorem run_part {t : TypeId} {cs : Array Value} {off : Nat} {v : Value} {u : TypeDesc} (hu : P.underlying t = some u) (ha : (match u with | .struct _ | .array _ _ => true | _ => false) = false)
    (hv : cs[off]? = some v) : (part t cs off).run P w = .ok v w := by
  cases u <;> first | (simp at ha; done) | simp [part, isAgg, run_underlying hu, hv]

theorem Reps.uncons {d : D} {ds : List D} {vs : List Value} (h : Reps S w (d :: ds) vs) : ∃ v vs', vs = v :: vs' ∧ Rep S w d v ∧ Reps S w ds vs' := by
  cases vs with
  | nil => have := h.1; simp at this
  | cons v vs => exact ⟨v, vs, rfl, h.head, h.tail⟩

theorem drop_cons {α : Type} {l : List α} {k : Nat} {v : α} {r : List α} (h : l.drop k = v :: r) : l[k]? = some v ∧ l.drop (k + 1) = r := by
  constructor
  · have := congrArg (·[0]?) h
    simpa using this
  · rw [← List.drop_drop, h]; rfl

theorem run_eqFields (d : Nat) (xs ys : Array Value) : ∀ (fs : List Field) (sig : List Nat) (k : Nat) (as bs : List D) (r : Bool), flatFields P k fs sig = true →
    Reps S w as (xs.toList.drop k) → Reps S w bs (ys.toList.drop k) → eqSig sig as bs = some r → (Op.eqFields (d + 1) xs ys fs).run P w = .ok r w := by
  intro fs
  induction fs with
  | nil =>
    intro sig k as bs r hf ha hb he
    cases sig with
    | nil =>
      have e : r = true := by cases as <;> cases bs <;> simp [eqSig] at he <;> exact he
      subst e; rfl
    | cons s sig => simp [flatFields] at hf
  | cons f fs ih =>
    intro sig k as bs r hf ha hb he
    cases sig with
    | nil => simp [flatFields] at hf
    | cons s sig =>
      simp only [flatFields, Bool.and_eq_true, beq_iff_eq] at hf
      obtain ⟨⟨⟨rfl, h2⟩, h3⟩, h4⟩ := hf
      have hnm : f.name ≠ "_" := by simpa using h2
      simp only [Op.eqFields, ne_eq, hnm, not_false_eq_true, if_true]
      unfold eqSig at he
      split at he
      · simp at *
      · rename_i sig' a as' b bs'  heq
        simp only [List.cons.injEq] at heq
        obtain ⟨rfl, rfl⟩ := heq
        obtain ⟨v, vs, e1, r1, t1⟩ := ha.uncons
        obtain ⟨u, us, e2, r2, t2⟩ := hb.uncons
        obtain ⟨e3, e4⟩ := drop_cons e1
        obtain ⟨e5, e6⟩ := drop_cons e2
        rw [← e4] at t1; rw [← e6] at t2
        have v1 := r1.bool_inv; have v2 := r2.bool_inv; subst v1; subst v2
        split at h3 <;> try (simp at h3; done)
        rename_i hu
        rw [Sem.run_bind, run_part hu rfl (by simpa using e3)]
        simp only [Result.andThen_ok]
        rw [Sem.run_bind, run_part hu rfl (by simpa using e5)]
        simp only [Result.andThen_ok]
        rw [Sem.run_bind, run_equalIn_bool' w d f.type a b hu]
        simp only [Result.andThen_ok]
        split at he
        · rename_i hab
          simp only [hab, Bool.not_true, Bool.false_eq_true, if_false]
          exact ih _ _ _ _ _ h4 t1 t2 he
        · rename_i hab
          cases he
          simp only [Bool.not_eq_true] at hab
          simp [hab]
      · rename_i sig' k1 a as' k2 b bs' heq
        simp only [List.cons.injEq] at heq
        obtain ⟨rfl, rfl⟩ := heq
        obtain ⟨v, vs, e1, r1, t1⟩ := ha.uncons
        obtain ⟨u, us, e2, r2, t2⟩ := hb.uncons
        obtain ⟨e3, e4⟩ := drop_cons e1
        obtain ⟨e5, e6⟩ := drop_cons e2
        rw [← e4] at t1; rw [← e6] at t2
        have v1 := r1.int_inv; have v2 := r2.int_inv; subst v1; subst v2
        split at h3 <;> try (simp at h3; done)
        rename_i k3 hu
        split at he <;> try (cases he; done)
        rename_i hk
        subst hk
        rw [Sem.run_bind, run_part hu rfl (by simpa using e3)]
        simp only [Result.andThen_ok]
        rw [Sem.run_bind, run_part hu rfl (by simpa using e5)]
        simp only [Result.andThen_ok]
        rw [Sem.run_bind, run_equalIn_int w d f.type k1 k3 a b hu]
        simp only [Result.andThen_ok]
        split at he
        · rename_i hab
          simp only [hab, Bool.not_true, Bool.false_eq_true, if_false]
          exact ih _ _ _ _ _ h4 t1 t2 he
        · rename_i hab
          cases he
          simp only [Bool.not_eq_true] at hab
          simp [hab]
      · rename_i sig' a as' b bs' heq
        simp only [List.cons.injEq] at heq
        obtain ⟨rfl, rfl⟩ := heq
        obtain ⟨v, vs, e1, r1, t1⟩ := ha.uncons
        obtain ⟨u, us, e2, r2, t2⟩ := hb.uncons
        obtain ⟨e3, e4⟩ := drop_cons e1
        obtain ⟨e5, e6⟩ := drop_cons e2
        rw [← e4] at t1; rw [← e6] at t2
        have v1 := r1.str_inv.1; have v2 := r2.str_inv.1; subst v1; subst v2
        split at h3 <;> try (simp at h3; done)
        rename_i hu
        rw [Sem.run_bind, run_part hu rfl (by simpa using e3)]
        simp only [Result.andThen_ok]
        rw [Sem.run_bind, run_part hu rfl (by simpa using e5)]
        simp only [Result.andThen_ok]
        rw [Sem.run_bind, run_equalIn_string w d f.type _ _ hu]
        simp only [Result.andThen_ok, ByteArray.toList_mk]
        split at he
        · rename_i hab
          simp only [hab, Bool.not_true, Bool.false_eq_true, if_false]
          exact ih _ _ _ _ _ h4 t1 t2 he
        · rename_i hab
          cases he
          simp only [Bool.not_eq_true] at hab
          simp [hab]
      · cases he

theorem Rep.agg_inv {ds : List D} {v : Value} (h : Rep S w (.agg ds) v) : ∃ vs : List Value, v = .agg vs.toArray ∧ Reps S w ds vs ∧ ∀ d ∈ ds, d.one = true := by
  cases h with
  | agg ds vs hl h1 h => exact ⟨vs, rfl, ⟨hl, h⟩, h1⟩

theorem sound_eq (neg : Bool) (sig : List Nat) (x y : PX) : Sound P (.eq neg sig x y) := by
  intro n S0 S w0 w O g tm o dst l hI hc hrd hdst hrun hal
  simp only [chkOp] at hc
  split at hc <;> try (cases hc; done)
  rename_i op t a b yt hop
  simp only [Bool.and_eq_true] at hc
  obtain ⟨⟨⟨h1, h2⟩, h3⟩, h4⟩ := hc
  unfold eqTy at h4
  split at h4 <;> try (cases h4; done)
  rename_i fs hu
  simp only [Bool.and_eq_true, Bool.not_eq_true'] at h4
  obtain ⟨⟨h4, h5⟩, h6⟩ := h4
  simp only [K.run] at hrun
  split at hrun <;> try (cases hrun; done)
  rename_i as bs ha hb
  rw [Option.map_eq_some_iff] at hrun
  obtain ⟨r, hr, rfl⟩ := hrun
  have ra := hI.opnd h2 (by rw [ha]; rfl)
  have rb := hI.opnd h3 (by rw [hb]; rfl)
  rw [ha] at ra; rw [hb] at rb
  obtain ⟨us, ea, ra, _⟩ := ra.agg_inv
  obtain ⟨vs, eb, rb, _⟩ := rb.agg_inv
  refine hI.val hdst (by simpa [K.kills] using hal) (.bool _) ?_
  have hf : P.fieldsOf t = fs := by simp [Program.fieldsOf, hu]
  have key := run_eqFields (P := P) (w := w) 9998 us.toArray vs.toArray fs.toList sig 0 as bs r h4 (by simpa using ra) (by simpa using rb) hr
  have key2 : (Op.equal t (.agg us.toArray) (.agg vs.toArray)).run P w = .ok r w := by
    show (Op.equalIn (9999 + 1) t _ _).run P w = _
    rw [run_equalIn_agg w 9999 t _ _ (by rw [hf]; exact hu) h5, hf]
    exact key
  have hq : op = if neg then .neq else .eql := by cases neg <;> simpa using h1
  have eg := run_eqGuard_agg (P := P) w op t a b us.toArray vs.toArray h6
  cases neg <;> simp only [if_true, Bool.false_eq_true, if_false] at hq ⊢ <;> subst hq <;> simp [execOp, hop, ea, eb, eg, binOp, key2]

end Go.Pi
