/-
  THE PROOFS, second part: equality of structs; values that are handed on. Own work.
-/
import Derived.Test.YtijkmdpdedagdaaGreatDoorPc
import Derived.Laws.StructEq
import Derived.ChangeKeysEq
set_option linter.unusedVariables false
set_option linter.unusedSimpArgs false
namespace Go.Pi
open Go Go.RowKit

variable {P : Program} {n : Nz} {S0 S : Nat → Nat → Prop} {w0 w : World} {O : Nat → Option Nat} {g : G} {tm : Array Value} {o : Oper} {dst : Nat}

theorem sound_eqb (neg : Bool) (x y : PX) : Sound P (.eqb neg x y) := by
  intro n S0 S w0 w O g tm o dst l hI hc hrd hdst hrun hal
  simp only [chkOp] at hc
  split at hc <;> try (cases hc; done)
  rename_i op t a b yt hop
  simp only [Bool.and_eq_true] at hc
  obtain ⟨⟨⟨h1, h2⟩, h3⟩, h4⟩ := hc
  simp only [K.run] at hrun
  split at hrun <;> try (cases hrun; done)
  rename_i a' b' ha hb
  cases hrun
  refine hI.val hdst (by simpa [K.kills] using hal) (.bool _) ?_
  have e1 := hI.boolOf h2 ha
  have e2 := hI.boolOf h3 hb
  have e3 := run_equal_bool (P := P) w t a' b' (isBool_iff h4)
  have hq : op = if neg then .neq else .eql := by cases neg <;> simpa using h1
  cases neg <;> simp only [if_true, Bool.false_eq_true, if_false] at hq ⊢ <;> subst hq <;> simp [execOp, hop, e1, e2, eqGuard, binOp, e3]

theorem run_part {t : TypeId} {cs : Array Value} {off : Nat} {v : Value} {u : TypeDesc} (hu : P.underlying t = some u) (ha : (match u with | .struct _ | .array _ _ => true | _ => false) = false)
    (hv : cs[off]? = some v) : (part t cs off).run P w = .ok v w := by
  cases u <;> first | (simp at ha; done) | simp [part, isAgg, run_underlying hu, hv]

theorem Reps.uncons {d : D} {ds : List D} {vs : List Value} (h : Reps S w (d :: ds) vs) : ∃ v vs', vs = v :: vs' ∧ Rep S w d v ∧ Reps S w ds vs' := by
  cases vs with
  | nil => have := h.1; simp at this
  | cons v vs => exact ⟨v, vs, rfl, h.head, h.tail⟩

theorem run_sizeOf0 {t : TypeId} (h : (P.info? t).isSome = true) : (sizeOf t).run P w = .ok (P.cellsOf t) w := by
  cases hi : P.info? t with
  | none => rw [hi] at h; cases h
  | some i => simp [sizeOf, typeInfo, Program.cellsOf, hi]
theorem run_part_agg {t : TypeId} {cs : Array Value} {off : Nat} (ha : isAggB P t = some true) (hi : (P.info? t).isSome = true) :
    (part t cs off).run P w = .ok (.agg (cs.extract off (off + P.cellsOf t))) w := by
  have h1 : (isAgg t).run P w = .ok true w := by
    unfold isAggB at ha
    cases hu : P.underlying t with
    | none => simp [hu] at ha
    | some u =>
      rw [hu] at ha
      cases u <;> simp at ha <;> simp [isAgg, run_underlying hu]
  unfold part
  rw [Sem.run_bind, h1]
  simp only [Result.andThen_ok, if_true]
  rw [Sem.run_bind, run_sizeOf0 hi]
  rfl

theorem eqSig_app : ∀ (c : Nat) {sig : List Nat} {as bs : List D} {r : Bool}, c ≤ sig.length → eqSig sig as bs = some r →
    ∃ r1, eqSig (sig.take c) (as.take c) (bs.take c) = some r1 ∧ (r1 = true → eqSig (sig.drop c) (as.drop c) (bs.drop c) = some r) ∧ (r1 = false → r = false)
  | 0, sig, as, bs, r, _, h => ⟨true, by simp [eqSig], fun _ => by simpa using h, fun h => (by cases h)⟩
  | c + 1, [], _, _, _, hl, _ => by simp at hl
  | c + 1, s :: sig, [], bs, _, _, h => by cases bs <;> simp [eqSig] at h
  | c + 1, s :: sig, a :: as, [], _, _, h => by simp [eqSig] at h
  | c + 1, s :: sig, a :: as, b :: bs, r, hl, h => by
    simp only [List.length_cons] at hl
    simp only [List.take_succ_cons, List.drop_succ_cons]
    unfold eqSig at h
    split at h
    · simp at *
    · rename_i heq0 heq1 heq2
      simp only [List.cons.injEq] at heq0 heq1 heq2
      obtain ⟨rfl, rfl⟩ := heq0
      obtain ⟨rfl, rfl⟩ := heq1
      obtain ⟨rfl, rfl⟩ := heq2
      simp only [eqSig]
      split at h
      · rename_i hab; simp only [hab, if_true]; exact eqSig_app c (by omega) h
      · rename_i hab; cases h; exact ⟨false, by rw [if_neg hab], fun h => (by cases h), fun _ => rfl⟩
    · rename_i heq0 heq1 heq2
      simp only [List.cons.injEq] at heq0 heq1 heq2
      obtain ⟨rfl, rfl⟩ := heq0
      obtain ⟨rfl, rfl⟩ := heq1
      obtain ⟨rfl, rfl⟩ := heq2
      simp only [eqSig]
      split at h <;> try (cases h; done)
      rename_i hk
      rw [if_pos hk]
      split at h
      · rename_i hab; simp only [hab, if_true]; exact eqSig_app c (by omega) h
      · rename_i hab; cases h; exact ⟨false, by rw [if_neg hab], fun h => (by cases h), fun _ => rfl⟩
    · rename_i heq0 heq1 heq2
      simp only [List.cons.injEq] at heq0 heq1 heq2
      obtain ⟨rfl, rfl⟩ := heq0
      obtain ⟨rfl, rfl⟩ := heq1
      obtain ⟨rfl, rfl⟩ := heq2
      simp only [eqSig]
      split at h
      · rename_i hab; simp only [hab, if_true]; exact eqSig_app c (by omega) h
      · rename_i hab; cases h; exact ⟨false, by rw [if_neg hab], fun h => (by cases h), fun _ => rfl⟩
    · cases h
theorem eqSig_nil {as bs : List D} {r : Bool} (h : eqSig [] as bs = some r) : r = true := by
  cases as <;> cases bs <;> simp [eqSig] at h <;> exact h

/-- equality of the parts at a place of two lists of cells -/
def EqOk (P : Program) (k : Nat) (t : TypeId) (sig : List Nat) : Prop := ∀ (w : World) (S : Nat → Nat → Prop) (d : Nat) (cs cs' : Array Value) (off : Nat) (as bs : List D) (r : Bool),
  Reps S w as ((cs.toList.drop off).take sig.length) → Reps S w bs ((cs'.toList.drop off).take sig.length) → eqSig sig as bs = some r →
    ∃ a b, (part t cs off).run P w = .ok a w ∧ (part t cs' off).run P w = .ok b w ∧ (Op.equalIn (d + k) t a b).run P w = .ok r w

theorem run_eqFs (k d : Nat) (xs ys : Array Value) (R : TypeId → List Nat → Bool) (hR : ∀ t sig, R t sig = true → EqOk P k t sig) : ∀ (fs : List Field) (o : Nat) (sig : List Nat) (as bs : List D) (r : Bool), eqFs P R o fs sig = true →
    Reps S w as ((xs.toList.drop o).take sig.length) → Reps S w bs ((ys.toList.drop o).take sig.length) → eqSig sig as bs = some r → (Op.eqFields (d + k) xs ys fs).run P w = .ok r w
  | [], o, sig, as, bs, r, hf, ha, hb, he => by
    cases sig with
    | nil => rw [eqSig_nil he]; rfl
    | cons s sig => simp [eqFs] at hf
  | f :: fs, o, sig, as, bs, r, hf, ha, hb, he => by
    simp only [eqFs, Bool.and_eq_true, beq_iff_eq, decide_eq_true_eq] at hf
    obtain ⟨⟨⟨⟨rfl, h2⟩, h3⟩, h4⟩, h5⟩ := hf
    have hnm : f.name ≠ "_" := by simpa using h2
    obtain ⟨r1, e1, e2, e3⟩ := eqSig_app (P.cellsOf f.type) h3 he
    have hlen : (sig.take (P.cellsOf f.type)).length = P.cellsOf f.type := by simp; omega
    have ht : ∀ zs : Array Value, ((zs.toList.drop f.offset).take sig.length).take (P.cellsOf f.type) = (zs.toList.drop f.offset).take (sig.take (P.cellsOf f.type)).length := fun zs => by
      rw [List.take_take, hlen, Nat.min_eq_left h3]
    have hd : ∀ zs : Array Value, ((zs.toList.drop f.offset).take sig.length).drop (P.cellsOf f.type) = (zs.toList.drop (f.offset + P.cellsOf f.type)).take (sig.drop (P.cellsOf f.type)).length := fun zs => by
      rw [List.drop_take, List.drop_drop, List.length_drop]
    obtain ⟨a, b, p1, p2, p3⟩ := hR f.type _ h4 w S d xs ys f.offset _ _ r1 (by rw [← ht]; exact ha.take _) (by rw [← ht]; exact hb.take _) e1
    simp only [Op.eqFields, ne_eq, hnm, not_false_eq_true, if_true]
    rw [Sem.run_bind, p1]
    simp only [Result.andThen_ok]
    rw [Sem.run_bind, p2]
    simp only [Result.andThen_ok]
    rw [Sem.run_bind, p3]
    simp only [Result.andThen_ok]
    cases r1 with
    | true =>
      simp only [Bool.not_true, Bool.false_eq_true, if_false]
      exact run_eqFs k d xs ys R hR fs _ _ _ _ r h5 (by rw [← hd]; exact ha.drop _) (by rw [← hd]; exact hb.drop _) (e2 rfl)
    | false => rw [e3 rfl]; simp

theorem run_eqIt (k d c : Nat) (e : TypeId) (xs ys : Array Value) : ∀ (m j : Nat) (sig : List Nat) (as bs : List D) (r : Bool), sig.length = m * c → (∀ i, i < m → EqOk P k e ((sig.drop (i * c)).take c)) →
    Reps S w as ((xs.toList.drop (j * c)).take sig.length) → Reps S w bs ((ys.toList.drop (j * c)).take sig.length) → eqSig sig as bs = some r → (Op.eqItems (d + k) e c xs ys (List.range' j m)).run P w = .ok r w
  | 0, j, sig, as, bs, r, hl, hk, ha, hb, he => by
    rw [Nat.zero_mul] at hl
    obtain rfl := List.length_eq_zero_iff.1 hl
    rw [eqSig_nil he]
    simp [Op.eqItems]
  | m + 1, j, sig, as, bs, r, hl, hk, ha, hb, he => by
    have hc : c ≤ sig.length := by rw [hl, Nat.succ_mul]; omega
    obtain ⟨r1, e1, e2, e3⟩ := eqSig_app c hc he
    have hlen : (sig.take c).length = c := by simp; omega
    have ht : ∀ zs : Array Value, ((zs.toList.drop (j * c)).take sig.length).take c = (zs.toList.drop (j * c)).take (sig.take c).length := fun zs => by
      rw [List.take_take, hlen, Nat.min_eq_left hc]
    have hd : ∀ zs : Array Value, ((zs.toList.drop (j * c)).take sig.length).drop c = (zs.toList.drop ((j + 1) * c)).take (sig.drop c).length := fun zs => by
      rw [List.drop_take, List.drop_drop, List.length_drop, Nat.succ_mul]
    have h0 := hk 0 (Nat.succ_pos m)
    rw [Nat.zero_mul, List.drop_zero] at h0
    obtain ⟨a, b, p1, p2, p3⟩ := h0 w S d xs ys (j * c) _ _ r1 (by rw [← ht]; exact ha.take _) (by rw [← ht]; exact hb.take _) e1
    rw [List.range'_succ]
    simp only [Op.eqItems, Sem.run_bind, p1, p2, p3, Result.andThen_ok]
    cases r1 with
    | true =>
      simp only [Bool.not_true, Bool.false_eq_true, if_false]
      exact run_eqIt k d c e xs ys m (j + 1) _ _ _ r (by rw [List.length_drop, hl, Nat.succ_mul]; omega) (fun i hi => by
        have := hk (i + 1) (by omega)
        rwa [Nat.succ_mul, Nat.add_comm (i * c) c, ← List.drop_drop] at this) (by rw [← hd]; exact ha.drop _) (by rw [← hd]; exact hb.drop _) (e2 rfl)
    | false => rw [e3 rfl]; simp

theorem at_take_one {l : List Value} {off : Nat} {v : Value} {vs : List Value} (h : (l.drop off).take 1 = v :: vs) : l[off]? = some v := by
  have := congrArg (·[0]?) h
  simpa [List.getElem?_take] using this

theorem eqT_ok : ∀ (k : Nat) (t : TypeId) (sig : List Nat), eqT P k t sig = true → EqOk P k t sig
  | 0, _, _, h => by simp [eqT] at h
  | k + 1, t, sig, h => by
    intro w S d cs cs' off as bs r ha hb he
    simp only [eqT, Bool.and_eq_true, beq_iff_eq] at h
    obtain ⟨⟨h1, h2⟩, h3⟩ := h
    have agg : isAggB P t = some true → (part t cs off).run P w = .ok (.agg (cs.extract off (off + sig.length))) w ∧ (part t cs' off).run P w = .ok (.agg (cs'.extract off (off + sig.length))) w := fun hg => by
      rw [← h2]; exact ⟨run_part_agg hg h1, run_part_agg hg h1⟩
    have ex : ∀ zs : Array Value, ((zs.extract off (off + sig.length)).toList.drop 0).take sig.length = (zs.toList.drop off).take sig.length := fun zs => by
      rw [List.drop_zero, Array.toList_extract, List.extract_eq_take_drop, Nat.add_sub_cancel_left, List.take_take, Nat.min_self]
    split at h3
    · rename_i hu
      simp only [beq_iff_eq] at h3
      subst h3
      unfold eqSig at he
      split at he <;> first | (simp at *; done) | skip
      rename_i s' a as' b bs' heq
      simp only [List.cons.injEq] at heq
      obtain ⟨_, rfl⟩ := heq
      obtain ⟨v, vs, x1, r1, _⟩ := ha.uncons
      obtain ⟨u, us, x2, r2, _⟩ := hb.uncons
      have v1 := r1.bool_inv; have v2 := r2.bool_inv; subst v1; subst v2
      refine ⟨.bool a, .bool b, run_part hu rfl (by simpa using at_take_one x1), run_part hu rfl (by simpa using at_take_one x2), ?_⟩
      rw [show d + (k + 1) = (d + k) + 1 from rfl, run_equalIn_bool' w (d + k) t a b hu]
      split at he
      · rename_i hab; rw [eqSig_nil he, hab]
      · rename_i hab; cases he; simp only [Bool.not_eq_true] at hab; rw [hab]
    · rename_i k3 hu
      simp only [beq_iff_eq] at h3
      subst h3
      unfold eqSig at he
      split at he <;> first | (simp at *; done) | skip
      rename_i s' k1 a as' k2 b bs' heq
      simp only [List.cons.injEq] at heq
      obtain ⟨_, rfl⟩ := heq
      obtain ⟨v, vs, x1, r1, _⟩ := ha.uncons
      obtain ⟨u, us, x2, r2, _⟩ := hb.uncons
      have v1 := r1.int_inv; have v2 := r2.int_inv; subst v1; subst v2
      split at he <;> try (cases he; done)
      rename_i hk
      subst hk
      refine ⟨.int k1 a, .int k1 b, run_part hu rfl (by simpa using at_take_one x1), run_part hu rfl (by simpa using at_take_one x2), ?_⟩
      rw [show d + (k + 1) = (d + k) + 1 from rfl, run_equalIn_int w (d + k) t k1 k3 a b hu]
      split at he
      · rename_i hab; rw [eqSig_nil he, hab]
      · rename_i hab; cases he; simp only [Bool.not_eq_true] at hab; rw [hab]
    · rename_i hu
      simp only [beq_iff_eq] at h3
      subst h3
      unfold eqSig at he
      split at he <;> first | (simp at *; done) | skip
      rename_i s' a as' b bs' heq
      simp only [List.cons.injEq] at heq
      obtain ⟨_, rfl⟩ := heq
      obtain ⟨v, vs, x1, r1, _⟩ := ha.uncons
      obtain ⟨u, us, x2, r2, _⟩ := hb.uncons
      have v1 := r1.str_inv.1; have v2 := r2.str_inv.1; subst v1; subst v2
      refine ⟨_, _, run_part hu rfl (by simpa using at_take_one x1), run_part hu rfl (by simpa using at_take_one x2), ?_⟩
      rw [show d + (k + 1) = (d + k) + 1 from rfl, run_equalIn_string w (d + k) t _ _ hu]
      simp only [ByteArray.toList_mk]
      split at he
      · rename_i hab; rw [eqSig_nil he, hab]
      · rename_i hab; cases he; simp only [Bool.not_eq_true] at hab; rw [hab]
    · rename_i fs hu
      simp only [Bool.and_eq_true, Bool.not_eq_true'] at h3
      obtain ⟨h5, h6⟩ := h3
      obtain ⟨p1, p2⟩ := agg (by simp [isAggB, hu])
      have hf : P.fieldsOf t = fs := by simp [Program.fieldsOf, hu]
      refine ⟨_, _, p1, p2, ?_⟩
      rw [show d + (k + 1) = (d + k) + 1 from rfl, run_equalIn_agg w (d + k) t _ _ (by rw [hf]; exact hu) h5, hf]
      exact run_eqFs k d _ _ (eqT P k) (fun t sig h => eqT_ok k t sig h) fs.toList 0 sig as bs r h6 (by rw [ex]; exact ha) (by rw [ex]; exact hb) he
    · rename_i n e hu
      simp only [Bool.and_eq_true, beq_iff_eq, List.all_eq_true, List.mem_range] at h3
      obtain ⟨⟨h5, h6⟩, h7⟩ := h3
      obtain ⟨p1, p2⟩ := agg (by simp [isAggB, hu])
      obtain ⟨i, hi⟩ := Option.isSome_iff_exists.1 h5
      refine ⟨_, _, p1, p2, ?_⟩
      rw [show d + (k + 1) = (d + k) + 1 from rfl, run_equalIn_array w (d + k) _ _ hu hi, List.range_eq_range']
      exact run_eqIt k d (P.cellsOf e) e _ _ n 0 sig as bs r h6.symm (fun i hi => eqT_ok k e _ (h7 i hi)) (by rw [Nat.zero_mul, ex]; exact ha) (by rw [Nat.zero_mul, ex]; exact hb) he
    · cases h3

/-- equality of two whole values -/
theorem eqT_top {k : Nat} {t : TypeId} {sig : List Nat} (h : eqT P (k + 1) t sig = true) (h8 : (match P.underlying t with | some (.struct _) | some (.array _ _) => true | _ => false) = true) (d : Nat) {us vs : List Value} {as bs : List D} {r : Bool}
    (ha : Reps S w as us) (hb : Reps S w bs vs) (he : eqSig sig as bs = some r) : (Op.equalIn (d + (k + 1)) t (.agg us.toArray) (.agg vs.toArray)).run P w = .ok r w := by
  obtain ⟨r1, e1, e2, e3⟩ := eqSig_app sig.length (Nat.le_refl _) he
  have er : r1 = r := by
    cases r1 with
    | true => exact (eqSig_nil (by simpa using e2 rfl)).symm
    | false => exact (e3 rfl).symm
  subst er
  rw [List.take_length] at e1
  have ha := ha.take sig.length
  have hb := hb.take sig.length
  simp only [eqT, Bool.and_eq_true, beq_iff_eq] at h
  obtain ⟨⟨h1, h2⟩, h3⟩ := h
  split at h3
  · rename_i hu; rw [hu] at h8; cases h8
  · rename_i hu; rw [hu] at h8; cases h8
  · rename_i hu; rw [hu] at h8; cases h8
  · rename_i fs hu
    simp only [Bool.and_eq_true, Bool.not_eq_true'] at h3
    obtain ⟨h5, h6⟩ := h3
    have hf : P.fieldsOf t = fs := by simp [Program.fieldsOf, hu]
    rw [show d + (k + 1) = (d + k) + 1 from rfl, run_equalIn_agg w (d + k) t _ _ (by rw [hf]; exact hu) h5, hf]
    exact run_eqFs k d _ _ (eqT P k) (fun t sig h => eqT_ok k t sig h) fs.toList 0 sig _ _ r1 h6 (by simpa using ha) (by simpa using hb) e1
  · rename_i n e hu
    simp only [Bool.and_eq_true, beq_iff_eq, List.all_eq_true, List.mem_range] at h3
    obtain ⟨⟨h5, h6⟩, h7⟩ := h3
    obtain ⟨i, hi⟩ := Option.isSome_iff_exists.1 h5
    rw [show d + (k + 1) = (d + k) + 1 from rfl, run_equalIn_array w (d + k) _ _ hu hi, List.range_eq_range']
    exact run_eqIt k d (P.cellsOf e) e _ _ n 0 sig _ _ r1 h6.symm (fun i hi => eqT_ok k e _ (h7 i hi)) (by simpa using ha) (by simpa using hb) e1
  · cases h3

theorem Rep.agg_inv {ds : List D} {v : Value} (h : Rep S w (.agg ds) v) : ∃ vs : List Value, v = .agg vs.toArray ∧ Reps S w ds vs ∧ ∀ d ∈ ds, d.one = true := by
  cases h with
  | agg ds vs hl h1 h => exact ⟨vs, rfl, ⟨hl, h⟩, h1⟩

theorem sound_eq (neg : Bool) (sig : List Nat) (x y : PX) : Sound P (.eq neg sig x y) := by
  intro n S0 S w0 w O g tm o dst l hI hc hrd hdst hrun hal
  simp only [chkOp] at hc
  split at hc <;> try (cases hc; done)
  rename_i op t a b yt hop
  simp only [Bool.and_eq_true] at hc
  obtain ⟨⟨⟨h1, h2⟩, h3⟩, h4⟩ := hc
  unfold eqTy at h4
  simp only [Bool.and_eq_true, Bool.not_eq_true'] at h4
  obtain ⟨⟨h8, h4⟩, h6⟩ := h4
  simp only [K.run] at hrun
  split at hrun <;> try (cases hrun; done)
  rename_i as bs ha hb
  rw [Option.map_eq_some_iff] at hrun
  obtain ⟨r, hr, rfl⟩ := hrun
  have ra := hI.opnd h2 (by rw [ha]; rfl)
  have rb := hI.opnd h3 (by rw [hb]; rfl)
  rw [ha] at ra; rw [hb] at rb
  obtain ⟨us, ea, ra, _⟩ := ra.agg_inv
  obtain ⟨vs, eb, rb, _⟩ := rb.agg_inv
  refine hI.val hdst (by simpa [K.kills] using hal) (.bool _) ?_
  have key2 : (Op.equal t (.agg us.toArray) (.agg vs.toArray)).run P w = .ok r w := eqT_top (k := 5) h4 h8 9994 ra rb hr
  have hq : op = if neg then .neq else .eql := by cases neg <;> simpa using h1
  have eg := run_eqGuard_agg (P := P) w op t a b us.toArray vs.toArray h6
  cases neg <;> simp only [if_true, Bool.false_eq_true, if_false] at hq ⊢ <;> subst hq <;> simp [execOp, hop, ea, eb, eg, binOp, key2]

end Go.Pi

/-
  THE PROOFS, third part: values handed on; addresses. Own work.
-/
namespace Go.Pi
open Go Go.RowKit

variable {P : Program} {n : Nz} {S0 S : Nat → Nat → Prop} {w0 w : World} {O : Nat → Option Nat} {g : G} {tm : Array Value} {o : Oper} {dst : Nat}

theorem exec_move {y : Operand} (hop : o.op = .move y ∨ o.op = .assign y) (ρ : Operand → Value) : (execOp ρ o).run P w = .ok (.value (ρ y)) w := by
  rcases hop with h | h <;> simp [execOp, h]

theorem moveOf {x : PX} {f : Operand → PX → Bool} (hc : (match o.op with | .move y | .assign y => f y x | _ => false) = true) : ∃ y, (o.op = .move y ∨ o.op = .assign y) ∧ f y x = true := by
  split at hc
  · rename_i y h; exact ⟨y, .inl h, hc⟩
  · rename_i y h; exact ⟨y, .inr h, hc⟩
  · cases hc

theorem sound_cp (x : PX) : Sound P (.cp x) := by
  intro n S0 S w0 w O g tm o dst l hI hc hrd hdst hrun hal
  simp only [chkOp] at hc
  obtain ⟨y, hop, hx⟩ := moveOf (f := chkX) hc
  have hex := exec_move (P := P) (w := w) hop (rho tm)
  simp only [K.run] at hrun
  split at hrun <;> try (cases hrun; done)
  rename_i hp
  cases hrun
  exact hI.val hdst (by simpa [K.kills] using hal) (hI.opnd hx hp) hex

theorem sound_mv (x : PX) : Sound P (.mv x) := by
  intro n S0 S w0 w O g tm o dst l hI hc hrd hdst hrun hal
  simp only [chkOp] at hc
  obtain ⟨y, hop, hx⟩ := moveOf (f := chkX) hc
  have hex := exec_move (P := P) (w := w) hop (rho tm)
  have hal' : ∀ t' s, aliasOf (g t') = some s → s = dst → t' = dst := fun t s h1 h2 => by
    simpa [K.kills] using hal t s h1 (by simpa [K.kills] using h2)
  have pureCase : ∀ d, x.ev g = d → d.isPure = true → l = [(dst, d)] → ∃ v w', (execOp (rho tm) o).run P w = .ok (.value v) w' ∧ Good P n S0 w0 (upds g l) (tm.setIfInBounds dst v) w' := by
    intro d hd hp hl
    subst hl
    exact hI.val hdst (fun t s h1 h2 => by simpa using hal' t s h1 (by simpa using h2)) (by rw [← hd]; exact hI.opnd hx (by rw [hd]; exact hp)) hex
  simp only [K.run] at hrun
  split at hrun
  · rename_i d
    split at hrun <;> cases hrun
    rename_i hdp
    cases y <;> simp only [chkX] at hx <;> try (cases hx; done)
    · exact hI.val hdst (fun t s h1 h2 => by simpa using hal' t s h1 (by simpa using h2)) (constOk_rep hx) hex
    · cases d <;> (try (simp [chkX] at hx; done))
      exact pureCase _ rfl rfl rfl
  · rename_i t
    have ht : t ≠ dst := fun e => hrd (by simp [K.reads, PX.reads, e])
    obtain ⟨ey, htg⟩ : y = .tmp t ∧ t < GB := by cases y <;> simp [chkX] at hx; obtain ⟨rfl, h⟩ := hx; exact ⟨rfl, h⟩
    subst ey
    have own : l = [(dst, .al t)] → ∃ v w', (execOp (rho tm) o).run P w = .ok (.value v) w' ∧ Good P n S0 w0 (upds g l) (tm.setIfInBounds dst v) w' := by
      intro hl
      subst hl
      exact ⟨_, w, hex, _, _, _, hI.setAl (tmOf_lt htg).symm ht hdst hal'⟩
    split at hrun
    · cases hrun; exact own rfl
    · cases hrun; exact own rfl
    · cases hrun
    · cases hrun
    · cases hrun
    · cases hrun
    · cases hrun
    · cases hrun
    · rename_i h1 h2 h3 h4 h5 h6 h7 h8
      cases hrun
      refine pureCase _ rfl ?_ rfl
      simp only [PX.ev]
      cases hg : g t <;> first | rfl | (exfalso; first | exact h1 _ _ _ _ hg | exact h2 _ _ hg | exact h3 _ hg | exact h4 _ _ hg | exact h5 hg | exact h6 _ hg | exact h7 _ hg | exact h8 _ hg)
  · rename_i t s
    have ht : s ≠ dst := fun e => hrd (by simp [K.reads, PX.reads, e])
    obtain ⟨ey, htg⟩ : y = .tmp t ∧ t < GB := by cases y <;> simp [chkX] at hx; obtain ⟨rfl, h⟩ := hx; exact ⟨rfl, h⟩
    subst ey
    split at hrun
    · rename_i s' hs
      split at hrun <;> try (cases hrun; done)
      rename_i e
      subst e
      cases hrun
      have h1 := hI.slot t
      rw [hs] at h1
      exact ⟨_, w, hex, _, _, _, hI.setAl ((tmOf_lt htg).symm.trans h1.2) ht hdst hal'⟩
    · cases hrun
    · cases hrun
    · cases hrun
    · cases hrun
    · cases hrun
    · cases hrun
    · cases hrun
    · rename_i h1 h2 h3 h4 h5 h6 h7 h8
      cases hrun
      refine pureCase (g t) ?_ ?_ rfl
      · simp only [PX.ev]
      · cases hg : g t <;> first | rfl | (exfalso; first | exact h1 _ hg | exact h2 _ _ _ _ hg | exact h3 _ _ hg | exact h4 _ _ hg | exact h5 hg | exact h6 _ hg | exact h7 _ hg | exact h8 _ hg)

theorem sound_nil (e : TypeId) : Sound P (.nil e) := by
  intro n S0 S w0 w O g tm o dst l hI hc hrd hdst hrun hal
  simp only [chkOp] at hc
  simp only [K.run] at hrun
  cases hrun
  have hop : o.op = .move (.const (.slice none 0 0)) ∨ o.op = .assign (.const (.slice none 0 0)) := by
    split at hc
    · rename_i h; exact .inl h
    · rename_i h; exact .inr h
    · cases hc
  refine ⟨_, w, exec_move hop (rho tm), _, _, _, hI.setOwn (ob := none) hI.extRefl rfl ?_ (fun b hb => by cases hb) hdst (fun t s h1 h2 => by simpa [K.kills] using hal t s h1 (by simpa [K.kills] using h2))⟩
  simp only [OwnR]
  exact .inl (by simp [rho])

theorem sound_tk (t : Nat) : Sound P (.tk t) := by
  intro n S0 S w0 w O g tm o dst l hI hc hrd hdst hrun hal
  simp only [chkOp] at hc
  have hop : (o.op = .move (.tmp t) ∨ o.op = .assign (.tmp t)) ∧ t < GB := by
    split at hc
    · rename_i h; simp at hc; obtain ⟨rfl, hl⟩ := hc; exact ⟨.inl h, hl⟩
    · rename_i h; simp at hc; obtain ⟨rfl, hl⟩ := hc; exact ⟨.inr h, hl⟩
    · cases hc
  obtain ⟨hop, htg⟩ := hop
  have ht : t ≠ dst := fun e => hrd (by simp [K.reads, e])
  have hl : l = [(dst, g t), (t, .un)] ∧ (g t).isPure = true ∨ l = [(dst, g t), (t, .un)] ∧ (g t).owned = true := by
    simp only [K.run] at hrun
    cases hg : g t <;> rw [hg] at hrun <;> simp only at hrun <;> cases hrun <;> first | exact .inl ⟨rfl, rfl⟩ | exact .inr ⟨rfl, rfl⟩
  have hl' : l = [(dst, g t), (t, .un)] := hl.elim (·.1) (·.1)
  subst hl'
  have h1 := hI.drops [dst, t] (fun t' s h1 h2 => by simpa [K.kills] using hal t' s h1 (by simpa [K.kills] using h2))
  have hna : ∀ t' s, aliasOf (if t' ∈ [dst, t] then D.un else g t') = some s → s ≠ dst := fun t' s h2 e => by
    split at h2
    · cases h2
    · rename_i hn; exact hn (by simpa [K.kills] using hal t' s h2 (by simp [K.kills, e]))
  have h2 := h1.touch (t := dst) (tm.getD t undef) hdst.2 (by simp) hna
  have hsl := hI.slot t
  have hset : tmOf n.gv (tm.setIfInBounds dst (tm.getD t undef)) dst = tmOf n.gv tm t := (tmOf_set _ _ (by rw [hI.size]; exact hdst.1) (hI.has hdst)).trans (tmOf_lt htg).symm
  have h3 := h2.put (O' := fun x => if x = dst then O t else if x ∈ [dst, t] then none else O x) (t := dst) (d := g t) (fun x e => by simp [e]) (by simp) hna
    (fun b e => by
      simp only [if_true] at e
      exact ⟨(hI.base t b e).1, (hI.base t b e).2, fun x e' => by
        split at e'
        · cases e'
        · rename_i hn; have := hI.inj x t b e' e; exact hn (by simp [this]), hI.nfb_own e⟩)
    (by
      rcases hl with ⟨_, hp⟩ | ⟨_, hp⟩
      · rw [SR.pure_iff hp] at hsl ⊢
        simp only [if_true]
        exact ⟨hsl.1, by rw [hset]; exact hsl.2⟩
      · rw [SR.owned_iff hp] at hsl ⊢
        simp only [if_true]
        rw [hset]; exact hsl) (.inl (hI.has hdst))
  have eg : upds g [(dst, g t), (t, .un)] = upd (fun x => if x ∈ [dst, t] then D.un else g x) dst (g t) := by
    funext x
    simp only [upds, upd]
    by_cases e1 : x = t
    · subst e1; simp [ht]
    · by_cases e2 : x = dst
      · subst e2; simp [e1]
      · simp [e1, e2]
  rw [eg]
  exact ⟨_, w, exec_move hop (rho tm), S, _, _, h3⟩

theorem aliasOf_dull (d : D) : aliasOf d.dull = aliasOf d := by cases d <;> rfl

theorem alias_upd_dull (s t : Nat) : aliasOf (upd g s (g s).dull t) = aliasOf (g t) := by
  simp only [upd]
  split
  · rename_i e; rw [e, aliasOf_dull]
  · rfl

theorem upd_comm (g : G) {s t : Nat} (a b : D) (h : s ≠ t) : upd (upd g s a) t b = upd (upd g t b) s a := by
  funext x
  simp only [upd]
  by_cases e1 : x = t
  · subst e1
    by_cases e2 : x = s
    · exact absurd e2.symm h
    · simp [e2]
  · simp [e1]

theorem sound_sh (x : PX) : Sound P (.sh x) := by
  intro n S0 S w0 w O g tm o dst l hI hc hrd hdst hrun hal
  simp only [chkOp] at hc
  obtain ⟨y, hop, hx⟩ := moveOf (f := chkX) hc
  have hex := exec_move (P := P) (w := w) hop (rho tm)
  simp only [K.run] at hrun
  split at hrun
  · rename_i s wr e m cs hs he
    cases hrun
    have hsd : s ≠ dst := fun e => hrd (by cases x <;> simp [PX.slot] at hs <;> simp [K.reads, PX.reads, ← e, hs])
    obtain ⟨s', h1, h2, h3⟩ := hI.opndOwn hx (by rw [he]; rfl)
    rw [hs] at h1; cases h1
    rw [he] at h2 h3
    obtain ⟨S', hI', hSS⟩ := hI.dull s
    have h4 := hI'.slot s
    simp only [upd, if_true, h2, D.dull] at h4
    simp only [SR] at h4
    have hv : rho tm y = tmOf n.gv tm s := by
      have hxx := hx
      unfold chkX at hxx
      split at hxx
      · simp at hxx; obtain ⟨rfl, hlt⟩ := hxx; simp [PX.slot] at hs; subst hs; exact (tmOf_lt hlt).symm
      · rename_i t t' s''
        simp at hxx; obtain ⟨rfl, hlt⟩ := hxx; simp [PX.slot] at hs; subst hs
        have h5 := hI.slot t
        simp only [PX.ev] at he
        split at he
        · rename_i s3 hg3
          split at he
          · rename_i e3; subst e3; rw [hg3] at h5; exact (tmOf_lt hlt).symm.trans h5.2
          · cases he
        · cases he
        · cases he
        · cases he
        · cases he
        · cases he
        · rename_i h6 h7 h8 h9 h10 h11
          first | exact absurd he (h7 _ _ _ _) | exact absurd he (h8 _ _ _ _) | exact absurd he (h6 _ _ _ _)
      · simp [PX.slot] at hs
      · simp [PX.slot] at hs
      · cases hxx
    have hr : Rep S' w (.sl m cs) (rho tm y) := by rw [hv]; exact OwnR.rep h4
    have h6 := hI'.setPure hI'.extRefl (fun _ _ z => z) (fun _ _ z => .inl z) hr hdst (fun t s1 z1 z2 => by
      rw [alias_upd_dull] at z1
      simpa [K.kills] using hal t s1 z1 (by simpa [K.kills] using z2))
    have eg : upds g [(dst, .sl m cs), (s, .own false e m cs)] = upd (upd g s (g s).dull) dst (.sl m cs) := by
      simp only [upds]
      rw [upd_comm _ _ _ hsd, h2]; rfl
    rw [eg]
    exact ⟨_, w, hex, S', _, _, h6⟩
  · rename_i s m cs hs he
    cases hrun
    have hsd : s ≠ dst := fun e => hrd (by cases x <;> simp [PX.slot] at hs <;> simp [K.reads, PX.reads, ← e, hs])
    have hr := hI.opnd hx (by rw [he]; rfl)
    rw [he] at hr
    have h6 := hI.setPure hI.extRefl (fun _ _ z => z) (fun _ _ z => .inl z) hr hdst (fun t s1 z1 z2 => by
      simpa [K.kills] using hal t s1 z1 (by simpa [K.kills] using z2))
    have eg : upds g [(dst, .sl m cs), (s, g s)] = upd g dst (.sl m cs) := by
      simp only [upds]
      rw [upd_comm g (s := dst) (t := s) (.sl m cs) (g s) (fun z => hsd z.symm), upd_same]
    rw [eg]
    exact ⟨_, w, hex, S, _, _, h6⟩
  · cases hrun

end Go.Pi

/-
  THE PROOFS, fourth part: addresses, reads of memory, slices. Own work.
-/
namespace Go.Pi
open Go Go.RowKit

variable {P : Program} {n : Nz} {S0 S : Nat → Nat → Prop} {w0 w : World} {O : Nat → Option Nat} {g : G} {tm : Array Value} {o : Oper} {dst : Nat}

theorem halD {k : K} (hk : k.kills dst = [dst]) (hal : ∀ t s, aliasOf (g t) = some s → s ∈ k.kills dst → t ∈ k.kills dst) : ∀ t' s, aliasOf (g t') = some s → s = dst → t' = dst :=
  fun t s h1 h2 => by rw [hk] at hal; simpa using hal t s h1 (by simpa using h2)

theorem run_sizeOf {t : TypeId} (h : (P.info? t).isSome = true) : (sizeOf t).run P w = .ok (P.cellsOf t) w := by
  obtain ⟨i, hi⟩ := Option.isSome_iff_exists.1 h
  simp [sizeOf, typeInfo, hi, Program.cellsOf]

theorem Inv.immOf (h : Inv P n S0 w0 S O g tm w) {y : Operand} {x : PX} {cs : List D} (hx : chkX y x = true) (ha : x.at g = some (.imm cs)) :
    ∃ b off vs, rho tm y = .pointer (some ⟨b, off, none⟩) ∧ Row S w b off vs ∧ Reps S w cs vs ∧ ∀ d ∈ cs, d.one = true := by
  have key : x.ev g = .pt cs := by
    unfold PX.at at ha
    split at ha
    · rename_i t
      split at ha <;> cases ha
      rename_i hg; simp [PX.ev, hg]
    · rename_i t s
      split at ha
      · split at ha <;> cases ha
      · split at ha
        · split at ha <;> cases ha
        · cases ha
      · cases ha; rename_i hg; simp [PX.ev, hg]
      · cases ha
    · cases ha
  have hr := h.opnd hx (by rw [key]; rfl)
  rw [key] at hr
  generalize hv : rho tm y = v at hr
  cases hr with
  | pt ds b off vs hl h1 hr h => exact ⟨b, off, vs, rfl, hr, ⟨hl, h⟩, h1⟩

/-- the block that a slot owns, with the cells that it reads as -/
theorem SR.block {t : Nat} {d : D} {f : Nat → Value} {b : Nat} (h : SR P S w O f t d) (hd : d.owned = true) (hb : O t = some b) :
    ∃ arr e, w.heap[b]? = some (.cells arr e (0, 0)) ∧ Reps S w d.mem (arr.toList.take d.mem.length) ∧ (∀ x ∈ d.mem, x.one = true) := by
  rw [SR.owned_iff hd] at h
  cases d <;> (try (simp [D.owned] at hd; done)) <;> simp only [OwnR] at h
  · rcases h with ⟨h1, _⟩ | ⟨b', cap, arr, h1, h2, h3, h4, h5, h6, h7, h8, h9, h10, h11⟩
    · rw [hb] at h1; cases h1
    · rw [hb] at h1; cases h1
      exact ⟨arr, _, h3, by simp only [D.mem]; rw [h7]; exact h8, h9⟩
  · obtain ⟨b', arr, e, h1, h2, h3, h8, h9, h10, h11⟩ := h
    rw [hb] at h1; cases h1
    refine ⟨arr, e, h3, ?_, h9⟩
    simp only [D.mem]
    rw [List.take_of_length_le (by rw [h8.1]; exact Nat.le_refl _)]
    exact h8

theorem PX.at_own {x : PX} {s off : Nat} (ha : x.at g = some (.own s off)) : x.slot = some s := by
  unfold PX.at at ha
  split at ha
  · split at ha <;> cases ha; rfl
  · split at ha
    · split at ha <;> cases ha; rename_i e; rfl
    · split at ha
      · split at ha <;> cases ha; rfl
      · cases ha
    · cases ha
    · cases ha
  · cases ha

theorem PX.slot_reads {x : PX} {s : Nat} (h : x.slot = some s) : s ∈ x.reads := by
  cases x <;> simp [PX.slot] at h <;> simp [PX.reads, h]

theorem Inv.ownOf (h : Inv P n S0 w0 S O g tm w) {y : Operand} {x : PX} {s off : Nat} (hx : chkX y x = true) (ha : x.at g = some (.own s off)) :
    ∃ b, O s = some b ∧ rho tm y = .pointer (some ⟨b, off, none⟩) ∧ ((g s).owned = true ∨ ∃ t, g t = .rf s off) := by
  unfold PX.at at ha
  split at ha
  · rename_i t
    obtain ⟨ey, htg⟩ : y = .tmp t ∧ t < GB := by cases y <;> simp [chkX] at hx; obtain ⟨rfl, h⟩ := hx; exact ⟨rfl, h⟩
    subst ey
    split at ha <;> cases ha
    rename_i wr cs hg
    have hs := h.slot s
    rw [hg] at hs
    simp only [SR, OwnR] at hs
    obtain ⟨b, arr, e, h1, h2, _⟩ := hs
    exact ⟨b, h1, (tmOf_lt htg).symm.trans h2, .inl (by rw [hg]; rfl)⟩
  · rename_i t s'
    obtain ⟨ey, htg⟩ : y = .tmp t ∧ t < GB := by cases y <;> simp [chkX] at hx; obtain ⟨rfl, h⟩ := hx; exact ⟨rfl, h⟩
    subst ey
    have ht := h.slot t
    split at ha
    · rename_i s2 off2 hg
      split at ha <;> cases ha
      rename_i e
      subst e
      rw [hg] at ht
      obtain ⟨h1, b, h2, h3⟩ := ht
      exact ⟨b, h2, (tmOf_lt htg).symm.trans h3, .inr ⟨t, hg⟩⟩
    · rename_i s2 hg
      split at ha
      · rename_i e
        subst e
        split at ha <;> cases ha
        rename_i wr cs hg2
        rw [hg] at ht
        have hs := h.slot s
        rw [hg2] at hs
        simp only [SR, OwnR] at hs
        obtain ⟨b, arr, e, h1, h2, _⟩ := hs
        exact ⟨b, h1, ((tmOf_lt htg).symm.trans ht.2).trans h2, .inl (by rw [hg2]; rfl)⟩
      · cases ha
    · cases ha
    · cases ha
  · cases ha

theorem Addr.addL (b off k : Nat) : (⟨b, off, none⟩ : Addr).add k = ⟨b, off + k, none⟩ := by
  unfold Addr.add; split
  · rename_i h; simp [h]
  · rfl

theorem run_indexAt_slice {t e : TypeId} (hu : P.underlying t = some (.slice e)) (hi : (P.info? e).isSome = true) {b off m cap : Nat} {k : IntKind} {i : Int} (h0 : 0 ≤ i) (h1 : i < m) :
    (Instr.indexAt t (.slice (some ⟨b, off, none⟩) m cap) (.int k i)).run P w = .ok (.pointer (some ⟨b, off + i.toNat * P.cellsOf e, none⟩)) w := by
  simp [Instr.indexAt, asIntOf, run_underlying hu, h0, h1, run_sizeOf hi, Addr.addL]

theorem sound_ia (sz : Nat) (x i : PX) : Sound P (.ia sz x i) := by
  intro n S0 S w0 w O g tm o dst l hI hc hrd hdst hrun hal
  simp only [chkOp] at hc
  split at hc <;> try (cases hc; done)
  rename_i t a b hop
  simp only [Bool.and_eq_true] at hc
  obtain ⟨⟨h1, h2⟩, h3⟩ := hc
  split at h3 <;> try (cases h3; done)
  rename_i e hu
  simp only [Bool.and_eq_true, beq_iff_eq] at h3
  obtain ⟨h3, h4⟩ := h3
  subst h3
  simp only [K.run] at hrun
  split at hrun
  · rename_i m cs kx k ha hb
    split at hrun <;> cases hrun
    rename_i hk
    have hr := hI.opnd h1 (by rw [ha]; rfl)
    rw [ha] at hr
    generalize hv : rho tm a = v at hr
    cases hr with
    | sl0 a cap hc => simp at hk; omega
    | slN => simp at hk; omega
    | sl m ds bb off cap vs hl h5 hn hcc hrow h =>
      have e2 := hI.intOf h2 hb
      refine hI.val hdst (by simpa [K.kills] using hal) (v := .pointer (some ⟨bb, off + k.toNat * P.cellsOf e, none⟩)) ?_ ?_
      · exact .pt _ _ _ _ (by simp [hl]) (fun d hd => h5 d (List.mem_of_mem_drop (List.mem_of_mem_take hd))) ((hrow.drop _).take (P.cellsOf e))
          ((Reps.take (Reps.drop ⟨hl, h⟩ _) _).2)
      · simp [execOp, hop, hv, e2, run_indexAt_slice hu h4 hk.1 hk.2.1]
  · rename_i wr e' m cs kx k ha hb
    split at hrun <;> try (cases hrun; done)
    rename_i s hs
    split at hrun <;> cases hrun
    rename_i hk
    obtain ⟨s', h5, h6, h7⟩ := hI.opndOwn h1 (by rw [ha]; rfl)
    rw [hs] at h5; cases h5
    rw [ha] at h6 h7
    simp only [OwnR] at h7
    rcases h7 with ⟨_, _, hm, _⟩ | ⟨bb, cap, arr, h8, h9, _⟩
    · omega
    · have e2 := hI.intOf h2 hb
      have hsd : s ≠ dst := fun e => hrd (by simp only [K.reads, List.mem_append]; exact .inl (e ▸ PX.slot_reads hs))
      have h10 := hI.setRf (off := k.toNat * P.cellsOf e) h8 hsd hdst (halD rfl hal)
      refine ⟨_, w, ?_, _, _, _, h10⟩
      have h11 := run_indexAt_slice (P := P) (w := w) (cap := cap) (b := bb) (off := 0) (k := kx) hu h4 hk.1 hk.2.1
      rw [Nat.zero_add] at h11
      simp [execOp, hop, h9, e2, h11]
  · cases hrun

theorem run_indexAt_array {t e : TypeId} {m : Nat} (hu : P.underlying t = some (.array m e)) (hi : (P.info? e).isSome = true) {b off : Nat} {k : IntKind} {i : Int} (h0 : 0 ≤ i) (h1 : i < m) :
    (Instr.indexAt t (.pointer (some ⟨b, off, none⟩)) (.int k i)).run P w = .ok (.pointer (some ⟨b, off + i.toNat * P.cellsOf e, none⟩)) w := by
  simp [Instr.indexAt, asIntOf, run_underlying hu, Instr.sureAddr, h0, h1, run_sizeOf hi, Addr.addL]

theorem sound_iaA (m sz : Nat) (x i : PX) : Sound P (.iaA m sz x i) := by
  intro n S0 S w0 w O g tm o dst l hI hc hrd hdst hrun hal
  simp only [chkOp] at hc
  split at hc <;> try (cases hc; done)
  rename_i t a b hop
  simp only [Bool.and_eq_true] at hc
  obtain ⟨⟨h1, h2⟩, h3⟩ := hc
  split at h3 <;> try (cases h3; done)
  rename_i m' e hu
  simp only [Bool.and_eq_true, beq_iff_eq] at h3
  obtain ⟨⟨h3, h3'⟩, h4⟩ := h3
  subst h3; subst h3'
  simp only [K.run] at hrun
  split at hrun
  · rename_i cs kx k ha hb
    split at hrun <;> cases hrun
    rename_i hk
    obtain ⟨bb, off, vs, e1, hrow, hreps, h5⟩ := hI.immOf h1 ha
    have e2 := hI.intOf h2 hb
    refine hI.val hdst (by simpa [K.kills] using hal) (v := .pointer (some ⟨bb, off + k.toNat * P.cellsOf e, none⟩)) ?_ ?_
    · have hr2 := (hreps.drop (k.toNat * P.cellsOf e)).take (P.cellsOf e)
      exact .pt _ _ _ _ hr2.1 (fun d hd => h5 d (List.mem_of_mem_drop (List.mem_of_mem_take hd))) ((hrow.drop _).take (P.cellsOf e)) hr2.2
    · simp [execOp, hop, e1, e2, run_indexAt_array hu h4 hk.1 hk.2.1]
  · rename_i s off kx k ha hb
    split at hrun <;> cases hrun
    rename_i hk
    obtain ⟨bb, h8, e1, _⟩ := hI.ownOf h1 ha
    have e2 := hI.intOf h2 hb
    have hsd : s ≠ dst := fun e => hrd (by simp only [K.reads, List.mem_append]; exact .inl (e ▸ PX.slot_reads (PX.at_own ha)))
    have h10 := hI.setRf (off := off + k.toNat * P.cellsOf e) h8 hsd hdst (halD rfl hal)
    exact ⟨_, w, by simp [execOp, hop, e1, e2, run_indexAt_array hu h4 hk.1 hk.2], _, _, _, h10⟩
  · cases hrun

theorem run_fieldAt {t : TypeId} {fs : Array Field} {f : Nat} {fl : Field} {i : TypeInfo} (hu : P.underlying t = some (.struct fs)) (hf : fs[f]? = some fl) (hi : P.info? fl.type = some i) (hs : i.size ≠ 0) {b off : Nat} :
    (Instr.fieldAt t (.pointer (some ⟨b, off, none⟩)) f).run P w = .ok (.pointer (some ⟨b, off + fl.offset, none⟩)) w := by
  simp [Instr.fieldAt, run_underlying hu, hf, Instr.sureAddr, fieldPlace, sizeOf, typeInfo, hi, hs, Addr.addL]

theorem sound_fa (off : Nat) (x : PX) : Sound P (.fa off x) := by
  intro n S0 S w0 w O g tm o dst l hI hc hrd hdst hrun hal
  simp only [chkOp] at hc
  split at hc <;> try (cases hc; done)
  rotate_left
  · rename_i a hop
    simp only [Bool.and_eq_true, beq_iff_eq] at hc
    obtain ⟨h1, rfl⟩ := hc
    simp only [K.run] at hrun
    split at hrun
    · rename_i cs ha
      cases hrun
      obtain ⟨bb, off, vs, e1, hrow, hreps, h5⟩ := hI.immOf h1 ha
      refine hI.val hdst (by simpa [K.kills] using hal) (v := .pointer (some ⟨bb, off, none⟩)) ?_ ?_
      · rw [List.drop_zero]; exact .pt _ _ _ _ hreps.1 h5 hrow hreps.2
      · simp [execOp, hop, e1]
    · rename_i s off ha
      cases hrun
      obtain ⟨bb, h8, e1, _⟩ := hI.ownOf h1 ha
      have hsd : s ≠ dst := fun e => hrd (by simp only [K.reads]; exact (e ▸ PX.slot_reads (PX.at_own ha)))
      have h10 := hI.setRf (off := off) h8 hsd hdst (halD rfl hal)
      exact ⟨_, w, by simp [execOp, hop, e1], _, _, _, h10⟩
    · cases hrun
  rename_i t a f hop
  simp only [Bool.and_eq_true] at hc
  obtain ⟨h1, h3⟩ := hc
  split at h3 <;> try (cases h3; done)
  rename_i fs hu
  split at h3 <;> try (cases h3; done)
  rename_i fl hf
  simp only [Bool.and_eq_true, beq_iff_eq] at h3
  obtain ⟨h3, h4⟩ := h3
  subst h3
  split at h4 <;> try (cases h4; done)
  rename_i i hi
  have hs : i.size ≠ 0 := by simpa using h4
  simp only [K.run] at hrun
  split at hrun
  · rename_i cs ha
    cases hrun
    obtain ⟨bb, off, vs, e1, hrow, hreps, h5⟩ := hI.immOf h1 ha
    refine hI.val hdst (by simpa [K.kills] using hal) (v := .pointer (some ⟨bb, off + fl.offset, none⟩)) ?_ ?_
    · have hr2 := hreps.drop fl.offset
      exact .pt _ _ _ _ hr2.1 (fun d hd => h5 d (List.mem_of_mem_drop hd)) (hrow.drop _) hr2.2
    · simp [execOp, hop, e1, run_fieldAt hu hf hi hs]
  · rename_i s off ha
    cases hrun
    obtain ⟨bb, h8, e1, _⟩ := hI.ownOf h1 ha
    have hsd : s ≠ dst := fun e => hrd (by simp only [K.reads]; exact (e ▸ PX.slot_reads (PX.at_own ha)))
    have h10 := hI.setRf (off := off + fl.offset) h8 hsd hdst (halD rfl hal)
    exact ⟨_, w, by simp [execOp, hop, e1, run_fieldAt hu hf hi hs], _, _, _, h10⟩
  · cases hrun

theorem run_loadVar {t : TypeId} {ag : Bool} {vs : List Value} {b off : Nat} (hag : isAggB P t = some ag) (hsz : P.cellsOf t = vs.length) (hi : (P.info? t).isSome = true)
    (hcells : ∀ j v, vs[j]? = some v → w.cell? ⟨b, off + j, none⟩ = some v) (h1 : ag = false → vs.length = 1) :
    (loadVar t ⟨b, off, none⟩).run P w = .ok (if ag then .agg vs.toArray else vs.headD undef) w := by
  have hl := run_loadCells_list (P := P) w ⟨b, off, none⟩ vs (fun j v hj => by rw [Addr.addL]; exact hcells j v hj)
  unfold isAggB at hag
  cases hu : P.underlying t with
  | none => simp [hu] at hag
  | some u =>
    rw [hu] at hag
    have haggd : (isAgg t).run P w = .ok ag w := by
      cases u <;> simp at hag <;> subst hag <;> simp [isAgg, run_underlying hu]
    unfold loadVar
    rw [Sem.run_bind, haggd]
    simp only [Result.andThen_ok]
    cases ag with
    | true =>
      simp only [if_true]
      rw [Sem.run_bind, run_sizeOf hi, hsz]
      simp [hl]
    | false =>
      simp only [Bool.false_eq_true, if_false]
      have h2 := h1 rfl
      match vs, h2 with
      | [v], _ =>
        have := hcells 0 v rfl
        rw [Nat.add_zero] at this
        simp [this]

theorem ofCells_rep {ag : Bool} {m : Nat} {cs : List D} {d : D} {vs : List Value} (h : ofCells ag m cs = some d) (hr : Reps S w cs vs) (h1 : ∀ x ∈ cs, x.one = true) :
    m ≤ vs.length ∧ (ag = false → m = 1) ∧ Rep S w d (if ag then .agg (vs.take m).toArray else (vs.take m).headD undef) := by
  unfold ofCells at h
  split at h <;> try (cases h; done)
  rename_i hm
  refine ⟨by rw [← hr.1]; exact hm, ?_, ?_⟩
  · intro e; subst e; simp only [Bool.false_eq_true, if_false] at h
    split at h <;> try (cases h; done)
    assumption
  · cases ag with
    | true =>
      simp only [if_true, Option.some.injEq] at h ⊢
      subst h
      have := hr.take m
      exact .agg _ _ this.1 (fun x hx => h1 x (List.mem_of_mem_take hx)) this.2
    | false =>
      simp only [Bool.false_eq_true, if_false] at h ⊢
      split at h <;> try (cases h; done)
      rename_i e
      subst e
      cases cs with
      | nil => simp at h
      | cons c cs =>
        simp only at h
        split at h <;> cases h
        obtain ⟨v, vs', rfl, r, _⟩ := hr.uncons
        exact r

theorem sound_ld (ag : Bool) (m : Nat) (x : PX) : Sound P (.ld ag m x) := by
  intro n S0 S w0 w O g tm o dst l hI hc hrd hdst hrun hal
  simp only [chkOp] at hc
  split at hc <;> try (cases hc; done)
  rename_i t a hop
  simp only [Bool.and_eq_true, beq_iff_eq] at hc
  obtain ⟨⟨⟨h1, h2⟩, h3⟩, h4⟩ := hc
  subst h3
  simp only [K.run] at hrun
  split at hrun <;> try (cases hrun; done)
  rename_i p ha
  rw [Option.map_eq_some_iff] at hrun
  obtain ⟨d, hd, rfl⟩ := hrun
  cases p with
  | imm cs =>
    obtain ⟨bb, off, vs, e1, hrow, hreps, h5⟩ := hI.immOf h1 ha
    obtain ⟨g1, g2, g3⟩ := ofCells_rep (S := S) (w := w) hd hreps h5
    refine hI.val hdst (by simpa [K.kills] using hal) g3 ?_
    have := run_loadVar (P := P) (w := w) (vs := vs.take (P.cellsOf t)) (b := bb) (off := off) h2 (by simp [g1]) h4 (fun j v hj => ((hrow.take _) j v hj).2) (fun e => by simp [g2 e]; have := g2 e; omega)
    simp [execOp, hop, e1, Instr.loadAt, Instr.sureAddr, this]
  | own s off =>
    obtain ⟨bb, h8, e1, hcase⟩ := hI.ownOf h1 ha
    by_cases hown : (g s).owned = true
    case neg =>
      have hmem : (g s).mem = [] := by cases hg : g s <;> first | rfl | (rw [hg] at hown; exact absurd rfl hown)
      simp only [Where.cells, hmem, List.drop_nil] at hd
      unfold ofCells at hd
      simp only [List.length_nil, Nat.le_zero_eq, List.take_nil] at hd
      split at hd <;> try (cases hd; done)
      rename_i h0
      split at hd
      · rename_i hag
        cases hd
        have := run_loadVar (P := P) (w := w) (vs := []) (b := bb) (off := off) h2 (by rw [h0]; rfl) h4 (fun j v hj => by simp at hj) (fun e => by rw [hag] at e; cases e)
        refine hI.val hdst (by simpa [K.kills] using hal) (v := .agg #[]) (.agg [] [] rfl (by simp) (fun i d v hi => by simp at hi)) ?_
        simp [execOp, hop, e1, Instr.loadAt, Instr.sureAddr, this, hag]
      · split at hd
        · rename_i h1; rw [h0] at h1; cases h1
        · cases hd
    obtain ⟨arr, e, hb, hreps, h5⟩ := (hI.slot s).block hown h8
    obtain ⟨g1, g2, g3⟩ := ofCells_rep (S := S) (w := w) hd (hreps.drop off) (fun x hx => h5 x (List.mem_of_mem_drop hx))
    refine hI.val hdst (by simpa [K.kills] using hal) g3 ?_
    have := run_loadVar (P := P) (w := w) (vs := ((arr.toList.take (g s).mem.length).drop off).take (P.cellsOf t)) (b := bb) (off := off) h2 (by rw [List.length_take]; omega) h4
      (fun j v hj => by
        rw [cell_of_row w bb (off + j) arr e (0, 0) hb]
        rw [List.getElem?_take] at hj
        split at hj <;> try (cases hj; done)
        rw [List.getElem?_drop, List.getElem?_take] at hj
        split at hj <;> try (cases hj; done)
        simpa using hj)
      (fun e => by rw [List.length_take]; have := g2 e; omega)
    simp [execOp, hop, e1, Instr.loadAt, Instr.sureAddr, this]

end Go.Pi
