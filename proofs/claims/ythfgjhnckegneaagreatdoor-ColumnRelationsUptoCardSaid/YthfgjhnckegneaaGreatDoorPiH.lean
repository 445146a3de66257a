/-
  THE PROOFS, first part: operations whose result is a plain value and that touch no memory. Own work.
-/
import Derived.Test.YthfgjhnckegneaaGreatDoorPiG
namespace Go.Pi
open Go Go.RowKit

def Sound (P : Program) (k : K) : Prop :=
  ∀ {n : Nz} {S0 S : Nat → Nat → Prop} {w0 w : World} {O : Nat → Option Nat} {g : G} {tm : Array Value} {o : Oper} {dst : Nat} {l : List (Nat × D)},
    Inv P n S0 w0 S O g tm w → chkOp P o k = true → dst ∉ k.reads → n.Has dst → k.run dst g = some l →
    (∀ t s, aliasOf (g t) = some s → s ∈ k.kills dst → t ∈ k.kills dst) →
    ∃ v w', (execOp (rho tm) o).run P w = .ok (.value v) w' ∧ Good P n S0 w0 (upds g l) (tm.setIfInBounds dst v) w'

variable {P : Program} {n : Nz} {S0 S : Nat → Nat → Prop} {w0 w : World} {O : Nat → Option Nat} {g : G} {tm : Array Value} {o : Oper} {dst : Nat}

theorem Inv.val {d : D} {v : Value} (h : Inv P n S0 w0 S O g tm w) (hdst : n.Has dst) (hal : ∀ t s, aliasOf (g t) = some s → s ∈ [dst] → t ∈ [dst]) (hr : Rep S w d v)
    (hex : (execOp (rho tm) o).run P w = .ok (.value v) w) : ∃ v w', (execOp (rho tm) o).run P w = .ok (.value v) w' ∧ Good P n S0 w0 (upds g [(dst, d)]) (tm.setIfInBounds dst v) w' :=
  ⟨v, w, hex, _, _, _, h.setPure h.extRefl (fun _ _ x => x) (fun _ _ x => .inl x) hr hdst (fun t s h1 h2 => by simpa using hal t s h1 (by simpa using h2))⟩

theorem Rep.int_inv {k : IntKind} {m : Int} {v : Value} (h : Rep S w (.int k m) v) : v = .int k m := by cases h; rfl
theorem Rep.bool_inv {b : Bool} {v : Value} (h : Rep S w (.bool b) v) : v = .bool b := by cases h; rfl
theorem Rep.str_inv {l : List UInt8} {v : Value} (h : Rep S w (.str l) v) : v = .string ⟨l.toArray⟩ ∧ l.length ≤ maxLen := by cases h; exact ⟨rfl, by assumption⟩

theorem Inv.intOf (h : Inv P n S0 w0 S O g tm w) {y : Operand} {x : PX} {k : IntKind} {m : Int} (hx : chkX y x = true) (he : x.ev g = .int k m) : rho tm y = .int k m := by
  have := h.opnd hx (by rw [he]; rfl); rw [he] at this; exact this.int_inv
theorem Inv.boolOf (h : Inv P n S0 w0 S O g tm w) {y : Operand} {x : PX} {b : Bool} (hx : chkX y x = true) (he : x.ev g = .bool b) : rho tm y = .bool b := by
  have := h.opnd hx (by rw [he]; rfl); rw [he] at this; exact this.bool_inv
theorem Inv.strOf (h : Inv P n S0 w0 S O g tm w) {y : Operand} {x : PX} {l : List UInt8} (hx : chkX y x = true) (he : x.ev g = .str l) : rho tm y = .string ⟨l.toArray⟩ ∧ l.length ≤ maxLen := by
  have := h.opnd hx (by rw [he]; rfl); rw [he] at this; exact this.str_inv


theorem sound_ari (op : BinOp) (k : IntKind) (x y : PX) : Sound P (.ari op k x y) := by
  intro n S0 S w0 w O g tm o dst l hI hc hrd hdst hrun hal
  simp only [chkOp] at hc
  split at hc <;> try (cases hc; done)
  rename_i op' xt a b yt hop
  simp only [Bool.and_eq_true, beq_iff_eq] at hc
  obtain ⟨⟨rfl, h1⟩, h2⟩ := hc
  simp only [K.run] at hrun
  split at hrun <;> try (cases hrun; done)
  rename_i kx a' ky b' ha hb
  split at hrun <;> try (cases hrun; done)
  rename_i hk
  obtain ⟨rfl, rfl⟩ := hk
  rw [Option.map_eq_some_iff] at hrun
  obtain ⟨m, hm, rfl⟩ := hrun
  refine hI.val hdst (by simpa [K.kills] using hal) (.int _ _) ?_
  have e1 := hI.intOf h1 ha
  have e2 := hI.intOf h2 hb
  unfold arith at hm
  split at hm
  · cases hm; simp [execOp, hop, e1, e2, eqGuard, binOp, Op.intArith]
  · cases hm; simp [execOp, hop, e1, e2, eqGuard, binOp, Op.intArith]
  · cases hm; simp [execOp, hop, e1, e2, eqGuard, binOp, Op.intArith]
  · split at hm
    · cases hm
    · cases hm; simp [execOp, hop, e1, e2, eqGuard, binOp, Op.intDiv, *]
  · split at hm
    · cases hm
    · cases hm; simp [execOp, hop, e1, e2, eqGuard, binOp, Op.intDiv, *]
  · cases hm

theorem sound_ci (op : BinOp) (x y : PX) : Sound P (.ci op x y) := by
  intro n S0 S w0 w O g tm o dst l hI hc hrd hdst hrun hal
  simp only [chkOp] at hc
  split at hc <;> try (cases hc; done)
  rename_i op' xt a b yt hop
  simp only [Bool.and_eq_true, beq_iff_eq] at hc
  obtain ⟨⟨rfl, h1⟩, h2⟩ := hc
  simp only [K.run] at hrun
  split at hrun <;> try (cases hrun; done)
  rename_i kx a' ky b' ha hb
  split at hrun <;> try (cases hrun; done)
  rename_i hk
  subst hk
  rw [Option.map_eq_some_iff] at hrun
  obtain ⟨m, hm, rfl⟩ := hrun
  refine hI.val hdst (by simpa [K.kills] using hal) (.bool _) ?_
  have e1 := hI.intOf h1 ha
  have e2 := hI.intOf h2 hb
  unfold cmpI at hm
  split at hm <;> cases hm <;> simp [execOp, hop, e1, e2, eqGuard, binOp, Op.intCmp]

theorem sound_cat (x y : PX) : Sound P (.cat x y) := by
  intro n S0 S w0 w O g tm o dst l hI hc hrd hdst hrun hal
  simp only [chkOp] at hc
  split at hc <;> try (cases hc; done)
  rename_i xt a b yt hop
  simp only [Bool.and_eq_true] at hc
  obtain ⟨h1, h2⟩ := hc
  simp only [K.run] at hrun
  split at hrun <;> try (cases hrun; done)
  rename_i la lb ha hb
  split at hrun <;> try (cases hrun; done)
  rename_i hk
  cases hrun
  refine hI.val hdst (by simpa [K.kills] using hal) (.str (la ++ lb) (by simpa using hk)) ?_
  have e1 := (hI.strOf h1 ha).1
  have e2 := (hI.strOf h2 hb).1
  have := run_string_add_sum (P := P) w ⟨la.toArray⟩ ⟨lb.toArray⟩ (by simpa [maxLen, ByteArray.size] using hk)
  have e3 : ((⟨la.toArray⟩ : ByteArray) ++ ⟨lb.toArray⟩) = ⟨(la ++ lb).toArray⟩ := by
    apply ByteArray.ext
    simp
  rw [e3] at this
  simp [execOp, hop, e1, e2, eqGuard, binOp, this]

theorem sound_sc (op : BinOp) (x y : PX) : Sound P (.sc op x y) := by
  intro n S0 S w0 w O g tm o dst l hI hc hrd hdst hrun hal
  simp only [chkOp] at hc
  split at hc <;> try (cases hc; done)
  rename_i op' xt a b yt hop
  simp only [Bool.and_eq_true, beq_iff_eq] at hc
  obtain ⟨⟨rfl, h1⟩, h2⟩ := hc
  simp only [K.run] at hrun
  split at hrun <;> try (cases hrun; done)
  rename_i la lb ha hb
  rw [Option.map_eq_some_iff] at hrun
  obtain ⟨m, hm, rfl⟩ := hrun
  refine hI.val hdst (by simpa [K.kills] using hal) (.bool _) ?_
  have e1 := (hI.strOf h1 ha).1
  have e2 := (hI.strOf h2 hb).1
  unfold cmpS at hm
  split at hm <;> cases hm <;> simp [execOp, hop, e1, e2, eqGuard, binOp, Op.stringOp, ByteArray.toList_mk]

theorem sound_not (x : PX) : Sound P (.not x) := by
  intro n S0 S w0 w O g tm o dst l hI hc hrd hdst hrun hal
  simp only [chkOp] at hc
  split at hc <;> try (cases hc; done)
  rename_i xt a hop
  simp only [K.run] at hrun
  split at hrun <;> try (cases hrun; done)
  rename_i b hb
  cases hrun
  refine hI.val hdst (by simpa [K.kills] using hal) (.bool _) ?_
  simp [execOp, hop, hI.boolOf hc hb, Op.unary]

theorem sound_ng (k : IntKind) (x : PX) : Sound P (.ng k x) := by
  intro n S0 S w0 w O g tm o dst l hI hc hrd hdst hrun hal
  simp only [chkOp] at hc
  split at hc <;> try (cases hc; done)
  rename_i xt a hop
  simp only [K.run] at hrun
  split at hrun <;> try (cases hrun; done)
  rename_i kx b hb
  split at hrun <;> try (cases hrun; done)
  rename_i hk
  subst hk
  cases hrun
  refine hI.val hdst (by simpa [K.kills] using hal) (.int _ _) ?_
  simp [execOp, hop, hI.intOf hc hb, Op.unary, Op.intArith]

theorem sound_cvI (k : IntKind) (x : PX) : Sound P (.cvI k x) := by
  intro n S0 S w0 w O g tm o dst l hI hc hrd hdst hrun hal
  simp only [chkOp] at hc
  split at hc <;> try (cases hc; done)
  rename_i st t a hop
  simp only [Bool.and_eq_true] at hc
  obtain ⟨⟨h1, h2⟩, h3⟩ := hc
  simp only [K.run] at hrun
  split at hrun <;> try (cases hrun; done)
  rename_i kx b hb
  cases hrun
  refine hI.val hdst (by simpa [K.kills] using hal) (.int _ _) ?_
  obtain ⟨u, hu⟩ := Option.isSome_iff_exists.1 h3
  simp [execOp, hop, hI.intOf h1 hb, convert, run_underlying hu, run_underlying (isInt_iff h2), Conv.intToInt]

theorem sound_cvS (x : PX) : Sound P (.cvS x) := by
  intro n S0 S w0 w O g tm o dst l hI hc hrd hdst hrun hal
  simp only [chkOp] at hc
  split at hc <;> try (cases hc; done)
  rename_i st t a hop
  simp only [Bool.and_eq_true] at hc
  obtain ⟨⟨h1, h2⟩, h3⟩ := hc
  simp only [K.run] at hrun
  split at hrun <;> try (cases hrun; done)
  rename_i b hb
  cases hrun
  refine hI.val hdst (by simpa [K.kills] using hal) (.str _ (hI.strOf h1 hb).2) ?_
  obtain ⟨u, hu⟩ := Option.isSome_iff_exists.1 h3
  simp [execOp, hop, (hI.strOf h1 hb).1, convert, run_underlying hu, run_underlying (isStr_iff h2)]

theorem sound_ix (x i : PX) : Sound P (.ix x i) := by
  intro n S0 S w0 w O g tm o dst l hI hc hrd hdst hrun hal
  simp only [chkOp] at hc
  split at hc <;> try (cases hc; done)
  rename_i t a b hop
  simp only [Bool.and_eq_true] at hc
  obtain ⟨⟨h1, h2⟩, h3⟩ := hc
  simp only [K.run] at hrun
  split at hrun <;> try (cases hrun; done)
  rename_i la k m ha hb
  split at hrun <;> try (cases hrun; done)
  rename_i hk
  cases hrun
  refine hI.val hdst (by simpa [K.kills] using hal) (.int _ _) ?_
  have hlt : m.toNat < la.length := by omega
  have e3 : ((⟨la.toArray⟩ : ByteArray))[m.toNat]? = some la[m.toNat] := by
    rw [getElem?_pos _ _ (by simpa [ByteArray.size] using hlt)]
    rfl
  simp [execOp, hop, (hI.strOf h1 ha).1, hI.intOf h2 hb, Instr.index, asIntOf, run_underlying (isStr_iff h3), hk.1, e3, List.getElem?_eq_getElem hlt]

theorem sound_pick (c a b : PX) : Sound P (.pick c a b) := by
  intro n S0 S w0 w O g tm o dst l hI hc hrd hdst hrun hal
  simp only [chkOp] at hc
  split at hc <;> try (cases hc; done)
  rename_i c' a' b' hop
  simp only [Bool.and_eq_true] at hc
  obtain ⟨⟨h1, h2⟩, h3⟩ := hc
  simp only [K.run] at hrun
  split at hrun <;> try (cases hrun; done)
  rename_i t ht
  have e1 := hI.boolOf h1 ht
  cases t
  · simp only [Bool.false_eq_true, if_false] at hrun
    split at hrun <;> try (cases hrun; done)
    rename_i hp
    cases hrun
    exact hI.val hdst (by simpa [K.kills] using hal) (hI.opnd h3 hp) (by simp [execOp, hop, e1, asBool])
  · simp only [if_true] at hrun
    split at hrun <;> try (cases hrun; done)
    rename_i hp
    cases hrun
    exact hI.val hdst (by simpa [K.kills] using hal) (hI.opnd h2 hp) (by simp [execOp, hop, e1, asBool])

theorem sound_ext (t i : Nat) : Sound P (.ext t i) := by
  intro n S0 S w0 w O g tm o dst l hI hc hrd hdst hrun hal
  simp only [chkOp] at hc
  split at hc <;> try (cases hc; done)
  rename_i t' i' hop
  simp only [Bool.and_eq_true, beq_iff_eq] at hc
  obtain ⟨rfl, rfl⟩ := hc
  simp only [K.run] at hrun
  split at hrun <;> try (cases hrun; done)
  rename_i vs hv
  rw [Option.bind_eq_some_iff] at hrun
  obtain ⟨d, hd, hrun⟩ := hrun
  split at hrun <;> try (cases hrun; done)
  cases hrun
  have hr := hI.rep (t := t) (by rw [hv]; rfl)
  rw [hv] at hr
  generalize hx : tm.getD t undef = x at hr
  cases hr with
  | tup ds us hl h =>
    have hi : i < us.length := by rw [← hl]; exact (List.getElem?_eq_some_iff.1 hd).1
    refine hI.val hdst (by simpa [K.kills] using hal) (h i d us[i] hd (List.getElem?_eq_getElem hi)) ?_
    simp only [execOp, hop, rho, hx]
    simp [Instr.extract, List.getElem?_eq_getElem hi]

theorem sliceOf {m : Nat} {cs : List D} {v : Value} (h : Rep S w (.sl m cs) v) : ∃ a cap, v = .slice a m cap := by
  cases h <;> exact ⟨_, _, rfl⟩

theorem OwnR.slice {ob : Option Nat} {wr : Bool} {e : TypeId} {m : Nat} {ds : List D} {v : Value} (h : OwnR P S w ob (.own wr e m ds) v) : ∃ a cap, v = .slice a m cap := by
  simp only [OwnR] at h
  rcases h with ⟨_, rfl, rfl, _⟩ | ⟨b, cap, _, _, rfl, _⟩
  · exact ⟨_, _, rfl⟩
  · exact ⟨_, _, rfl⟩

/-- an operand that reads as a slice is one -/
theorem Inv.sliceOf (h : Inv P n S0 w0 S O g tm w) {y : Operand} {x : PX} {m : Nat} {cs : List D} (hx : chkX y x = true) (he : (x.ev g).slv = some (m, cs)) :
    ∃ a cap, rho tm y = .slice a m cap := by
  cases hg : x.ev g <;> rw [hg] at he <;> simp only [D.slv] at he <;> cases he
  · have := h.opnd hx (by rw [hg]; rfl); rw [hg] at this; exact Pi.sliceOf this
  · obtain ⟨s, _, _, h3⟩ := h.opndOwn hx (by rw [hg]; rfl); rw [hg] at h3; exact h3.slice

theorem arr1 {α : Type} {a : Array α} {x : α} (h : a.toList = [x]) : a = #[x] := by apply Array.ext'; simpa using h
theorem arr2 {α : Type} {a : Array α} {x y : α} (h : a.toList = [x, y]) : a = #[x, y] := by apply Array.ext'; simpa using h

theorem sound_len (x : PX) : Sound P (.len x) := by
  intro n S0 S w0 w O g tm o dst l hI hc hrd hdst hrun hal
  simp only [chkOp] at hc
  split at hc <;> try (cases hc; done)
  rename_i args argTypes hop
  split at hc <;> try (cases hc; done)
  rename_i y t hy ht
  simp only [Bool.and_eq_true] at hc
  obtain ⟨h1, h2⟩ := hc
  split at h2 <;> try (cases h2; done)
  rename_i e hu
  cases arr1 hy; cases arr1 ht
  simp only [K.run] at hrun
  have key : ∀ m cs, (x.ev g).slv = some (m, cs) → l = [(dst, .int .i64 m)] → ∃ v w', (execOp (rho tm) o).run P w = .ok (.value v) w' ∧ Good P n S0 w0 (upds g l) (tm.setIfInBounds dst v) w' := by
    intro m cs hs hl
    subst hl
    obtain ⟨a, cap, e1⟩ := hI.sliceOf h1 hs
    refine hI.val hdst (by simpa [K.kills] using hal) (.int _ _) ?_
    simp [execOp, hop, resolve, invoke, builtin, e1, Builtin.len_, run_underlying hu, goInt]
  split at hrun
  all_goals try (cases hrun; done)
  · rename_i b cs hb
    cases hrun
    exact key _ _ (by rw [hb]; rfl) rfl
  · rename_i b cs hb
    cases hrun
    exact key _ _ (by rw [hb]; rfl) rfl

theorem sound_lenS (x : PX) : Sound P (.lenS x) := by
  intro n S0 S w0 w O g tm o dst l hI hc hrd hdst hrun hal
  simp only [chkOp] at hc
  split at hc <;> try (cases hc; done)
  rename_i args argTypes hop
  split at hc <;> try (cases hc; done)
  rename_i y t hy ht
  simp only [Bool.and_eq_true] at hc
  obtain ⟨h1, h2⟩ := hc
  cases arr1 hy; cases arr1 ht
  simp only [K.run] at hrun
  split at hrun
  all_goals try (cases hrun; done)
  rename_i b hb
  cases hrun
  refine hI.val hdst (by simpa [K.kills] using hal) (.int _ _) ?_
  have e2 : (⟨b.toArray⟩ : ByteArray).size = b.length := by show b.toArray.size = _; simp
  simp [execOp, hop, resolve, invoke, builtin, (hI.strOf h1 hb).1, Builtin.len_, run_underlying (isStr_iff h2), goInt, e2]

theorem chkXs_cons {ys : List Operand} {x : PX} {xs : List PX} (h : chkXs ys (x :: xs) = true) : ∃ y ys', ys = y :: ys' ∧ chkX y x = true ∧ chkXs ys' xs = true := by
  cases ys with
  | nil => simp [chkXs] at h
  | cons y ys => simp only [chkXs, Bool.and_eq_true] at h; exact ⟨y, ys, rfl, h.1, h.2⟩

theorem optAll_cons {α : Type} {x : Option α} {xs : List (Option α)} {a : α} {as : List α} (h : optAll (x :: xs) = some (a :: as)) : x = some a ∧ optAll xs = some as := by
  cases x with
  | none => simp [optAll] at h
  | some y =>
    simp only [optAll, Option.map_eq_some_iff] at h
    obtain ⟨l, h1, h2⟩ := h
    simp only [List.cons.injEq] at h2
    obtain ⟨rfl, rfl⟩ := h2
    exact ⟨rfl, h1⟩

theorem optAll_nil {α : Type} {xs : List (Option α)} (h : optAll xs = some []) : xs = [] := by
  cases xs with
  | nil => rfl
  | cons x xs => cases x <;> simp [optAll] at h

def mmF (mx : Bool) (m v : Int) : Int := if mx then (if v > m then v else m) else (if v < m then v else m)

theorem run_mm (hI : Inv P n S0 w0 S O g tm w) (mx : Bool) (k : IntKind) : ∀ (xs : List PX) (ys : List Operand) (r : List (IntKind × Int)) (m : Int), chkXs ys xs = true →
    optAll (xs.map fun x => kval (x.ev g)) = some r → (r.all fun p => p.1 = k) = true →
    ((ys.map (rho tm)).foldlM (if mx then Builtin.max2 else Builtin.min2) (.int k m) : Sem Value).run P w = .ok (.int k (r.foldl (fun m p => mmF mx m p.2) m)) w := by
  intro xs
  induction xs with
  | nil =>
    intro ys r m hx hr hk
    cases ys with
    | nil => simp [optAll] at hr; subst hr; simp
    | cons y ys => simp [chkXs] at hx
  | cons x xs ih =>
    intro ys r m hx hr hk
    obtain ⟨y, ys, rfl, h1, h2⟩ := chkXs_cons hx
    cases r with
    | nil => have := optAll_nil hr; simp at this
    | cons p r =>
      obtain ⟨h3, h4⟩ := optAll_cons hr
      change kval (x.ev g) = some p at h3
      simp only [List.all_cons, Bool.and_eq_true, decide_eq_true_eq] at hk
      cases hv : x.ev g <;> rw [hv] at h3 <;> simp only [kval] at h3 <;> cases h3
      have e1 := hI.intOf h1 hv
      simp only at hk
      obtain ⟨rfl, hk⟩ := hk
      rename_i v
      have := ih ys r (mmF mx m v) h2 h4 hk
      cases mx <;> simp_all [mmF, Builtin.max2, Builtin.min2]

theorem sound_mm (mx : Bool) (xs : List PX) : Sound P (.mm mx xs) := by
  intro n S0 S w0 w O g tm o dst l hI hc hrd hdst hrun hal
  simp only [chkOp] at hc
  split at hc <;> try (cases hc; done)
  rename_i b args argTypes hop
  simp only [Bool.and_eq_true] at hc
  obtain ⟨h1, h2⟩ := hc
  simp only [K.run] at hrun
  split at hrun <;> try (cases hrun; done)
  rename_i k m r hr
  split at hrun <;> try (cases hrun; done)
  rename_i hk
  cases hrun
  cases xs with
  | nil => simp [optAll] at hr
  | cons x xs =>
    obtain ⟨y, ys, hy, h3, h4⟩ := chkXs_cons h2
    obtain ⟨h5, h6⟩ := optAll_cons hr
    change kval (x.ev g) = some (k, m) at h5
    cases hv : x.ev g <;> rw [hv] at h5 <;> simp only [kval] at h5 <;> cases h5
    have e1 := hI.intOf h3 hv
    have ea : args = (y :: ys).toArray := by apply Array.ext'; simpa using hy
    subst ea
    have key := run_mm hI mx k xs ys r m h4 h6 (by simpa using hk)
    refine hI.val hdst (by simpa [K.kills] using hal) (.int _ _) ?_
    have ef : (fun m (p : IntKind × Int) => if mx = true then if p.2 > m then p.2 else m else if p.2 < m then p.2 else m) = fun m p => mmF mx m p.2 := by funext a b; rfl
    rw [ef]
    split at h1 <;> try (cases h1; done)
    · subst h1
      simp only [if_true] at key
      simp [execOp, hop, resolve, invoke, builtin, Builtin.max_, e1, key]
    · simp at h1; subst h1
      simp only [Bool.false_eq_true, if_false] at key
      simp [execOp, hop, resolve, invoke, builtin, Builtin.min_, e1, key]

theorem run_equalIn_nn {t : TypeId} {ms : Array (String × TypeId)} (hu : P.underlying t = some (.interface ms)) (d : Nat) : (Op.equalIn (d + 1) t .nilIface .nilIface).run P w = .ok true w := by
  simp [Op.equalIn, run_underlying hu]
theorem run_equalIn_sn {t : TypeId} {ms : Array (String × TypeId)} (hu : P.underlying t = some (.interface ms)) (u : TypeId) (x : Value) (d : Nat) : (Op.equalIn (d + 1) t (.iface u x) .nilIface).run P w = .ok false w := by
  simp [Op.equalIn, run_underlying hu]
theorem run_equal_nn {t : TypeId} {ms : Array (String × TypeId)} (hu : P.underlying t = some (.interface ms)) : (Op.equal t .nilIface .nilIface).run P w = .ok true w := run_equalIn_nn hu 9999
theorem run_equal_sn {t : TypeId} {ms : Array (String × TypeId)} (hu : P.underlying t = some (.interface ms)) (u : TypeId) (x : Value) : (Op.equal t (.iface u x) .nilIface).run P w = .ok false w := run_equalIn_sn hu u x 9999

theorem sound_en (neg : Bool) (x : PX) : Sound P (.en neg x) := by
  intro n S0 S w0 w O g tm o dst l hI hc hrd hdst hrun hal
  simp only [chkOp] at hc
  split at hc <;> try (cases hc; done)
  rename_i op t a yt hop
  simp only [Bool.and_eq_true] at hc
  obtain ⟨⟨h1, h2⟩, h3⟩ := hc
  split at h3 <;> try (cases h3; done)
  rename_i ms hu
  simp only [K.run] at hrun
  split at hrun <;> try (cases hrun; done)
  rename_i b hb
  cases hrun
  have hr := hI.opnd h2 (by rw [hb]; rfl)
  rw [hb] at hr
  refine hI.val hdst (by simpa [K.kills] using hal) (.bool _) ?_
  generalize he : rho tm a = v at hr
  have e0 : rho tm (.const .nilIface) = .nilIface := rfl
  have hq : op = if neg then .neq else .eql := by cases neg <;> simpa using h1
  cases hr with
  | errN => cases neg <;> simp only [if_true, Bool.false_eq_true, if_false] at hq <;> subst hq <;> simp [execOp, hop, he, e0, eqGuard, binOp, run_equal_nn hu, run_equal_sn hu]
  | errS u y => cases neg <;> simp only [if_true, Bool.false_eq_true, if_false] at hq <;> subst hq <;> simp [execOp, hop, he, e0, eqGuard, binOp, run_equal_nn hu, run_equal_sn hu]

end Go.Pi
