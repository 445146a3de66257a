/-
  WHICH PURE OPERATION STANDS FOR WHICH OPERATION OF THE MODEL: a check by program, and its proofs, first part: operations whose result is a plain value and that touch no memory. Own work.
-/
import Derived.Test.YtijkmdpdedagdaaGreatDoorPb
import Derived.WalkLawsBesides
set_option linter.unusedVariables false
set_option linter.unusedSimpArgs false
namespace Go.Pi
open Go Go.RowKit

variable {P : Program} {n : Nz} {S0 S : Nat → Nat → Prop} {w0 w : World} {O : Nat → Option Nat} {g : G} {tm : Array Value}

def chkXs : List Operand → List PX → Bool
  | [], [] => true
  | y :: ys, x :: xs => chkX y x && chkXs ys xs
  | _, _ => false

def chkXo : Option Operand → Option PX → Bool
  | none, none => true
  | some y, some x => chkX y x
  | _, _ => false

def constsOk : List Value → List D → Bool
  | [], [] => true
  | v :: vs, d :: ds => constOk v d && d.one && constsOk vs ds
  | _, _ => false

/-- the zero value of a type, as cells -/
def zeroOk (P : Program) (t : TypeId) (z : List D) : Bool :=
  match P.info? t with
  | some i => match i.zero with
    | some v => constsOk v.cells.toList z && i.size == z.length
    | none => false
  | none => false

/-- the parts of a literal: for each part its place, its size and its operand -/
def chkParts (place : Nat → Option (Nat × Nat)) : List (Nat × Operand) → List (Nat × Nat × PX) → Bool
  | [], [] => true
  | (i, y) :: ys, (o, m, x) :: xs => place i == some (o, m) && chkX y x && chkParts place ys xs
  | _, _ => false

def fieldPlaces (P : Program) (fs : Array Field) : Array (Nat × Nat) := fs.map fun f => (f.offset, P.cellsOf f.type)

def isAggB (P : Program) (t : TypeId) : Option Bool :=
  match P.underlying t with
  | some (.struct _) | some (.array _ _) => some true
  | some _ => some false
  | none => none

/-- the fields of a struct, one beside the other, each fit for its part of the signature -/
def eqFs (P : Program) (R : TypeId → List Nat → Bool) : Nat → List Field → List Nat → Bool
  | _, [], [] => true
  | o, f :: fs, sig => f.offset == o && f.name != "_" && decide (P.cellsOf f.type ≤ sig.length) && R f.type (sig.take (P.cellsOf f.type)) && eqFs P R (o + P.cellsOf f.type) fs (sig.drop (P.cellsOf f.type))
  | _, _, _ => false

/-- a type whose cells are bools, integers and strings, as the signature says (structs and arrays in one another) -/
def eqT (P : Program) : Nat → TypeId → List Nat → Bool
  | 0, _, _ => false
  | k + 1, t, sig => (P.info? t).isSome && P.cellsOf t == sig.length && (match P.underlying t with
    | some .bool => sig == [0]
    | some (.int _) => sig == [1]
    | some .string => sig == [2]
    | some (.struct fs) => !P.stoodInHeld t && eqFs P (eqT P k) 0 fs.toList sig
    | some (.array n e) => (P.info? e).isSome && n * P.cellsOf e == sig.length && (List.range n).all (fun i => eqT P k e ((sig.drop (i * P.cellsOf e)).take (P.cellsOf e)))
    | _ => false)

def isInt (P : Program) (t : TypeId) (k : IntKind) : Bool := match P.underlying t with | some (.int k') => k' == k | _ => false
def isStr (P : Program) (t : TypeId) : Bool := match P.underlying t with | some .string => true | _ => false
def isSl (P : Program) (t e : TypeId) : Bool := match P.underlying t with | some (.slice e') => e' == e | _ => false
theorem isInt_iff {t : TypeId} {k : IntKind} (h : isInt P t k = true) : P.underlying t = some (.int k) := by unfold isInt at h; split at h <;> simp_all
theorem isStr_iff {t : TypeId} (h : isStr P t = true) : P.underlying t = some .string := by unfold isStr at h; split at h <;> simp_all
theorem isSl_iff {t e : TypeId} (h : isSl P t e = true) : P.underlying t = some (.slice e) := by unfold isSl at h; split at h <;> simp_all

def isBool (P : Program) (t : TypeId) : Bool := match P.underlying t with | some .bool => true | _ => false
theorem isBool_iff {t : TypeId} (h : isBool P t = true) : P.underlying t = some .bool := by unfold isBool at h; split at h <;> simp_all

def eqTy (P : Program) (t : TypeId) (sig : List Nat) : Bool :=
  (match P.underlying t with | some (.struct _) | some (.array _ _) => true | _ => false) && eqT P 6 t sig && !P.eqGuardType P.depth t

def chkOp (P : Program) (o : Oper) : K → Bool
  | .bad => true
  | .mv x => match o.op with
    | .move y | .assign y => chkX y x
    | _ => false
  | .cp x => match o.op with
    | .move y | .assign y => chkX y x
    | _ => false
  | .sh x => match o.op with
    | .move y | .assign y => chkX y x
    | _ => false
  | .nil _ => match o.op with
    | .move (.const (.slice none 0 0)) | .assign (.const (.slice none 0 0)) => true
    | _ => false
  | .tk t => match o.op with
    | .move (.tmp t') | .assign (.tmp t') => t == t' && decide (t < GB)
    | _ => false
  | .ari op _ x y => match o.op with
    | .binOp op' _ a b _ => op == op' && chkX a x && chkX b y
    | _ => false
  | .ci op x y => match o.op with
    | .binOp op' _ a b _ => op == op' && chkX a x && chkX b y
    | _ => false
  | .cat x y => match o.op with
    | .binOp .add _ a b _ => chkX a x && chkX b y
    | _ => false
  | .sc op x y => match o.op with
    | .binOp op' _ a b _ => op == op' && chkX a x && chkX b y
    | _ => false
  | .eqb neg x y => match o.op with
    | .binOp op t a b _ => (if neg then op == .neq else op == .eql) && chkX a x && chkX b y && isBool P t
    | _ => false
  | .eq neg sig x y => match o.op with
    | .binOp op t a b _ => (if neg then op == .neq else op == .eql) && chkX a x && chkX b y && eqTy P t sig
    | _ => false
  | .en neg x => match o.op with
    | .binOp op t a (.const .nilIface) _ => (if neg then op == .neq else op == .eql) && chkX a x && (match P.underlying t with | some (.interface _) => true | _ => false)
    | _ => false
  | .not x => match o.op with
    | .unOp .not _ y => chkX y x
    | _ => false
  | .ng _ x => match o.op with
    | .unOp .neg _ y => chkX y x
    | _ => false
  | .cvI k x => match o.op with
    | .convert s t y => chkX y x && isInt P t k && (P.underlying s).isSome
    | _ => false
  | .cvS x => match o.op with
    | .convert s t y => chkX y x && isStr P t && (P.underlying s).isSome
    | _ => false
  | .cvSB x => match o.op with
    | .convert s t y => chkX y x && isStr P s && (match P.underlying t with | some (.slice e) => isInt P e .u8 | _ => false)
    | _ => false
  | .cvBS x => match o.op with
    | .convert s t y => chkX y x && isStr P t && (match P.underlying s with | some (.slice e) => isInt P e .u8 | _ => false)
    | _ => false
  | .len x => match o.op with
    | .call { callee := .builtin .len, args, argTypes } =>
      (match args.toList, argTypes.toList with
      | [y], [t] => chkX y x && (match P.underlying t with | some (.slice _) => true | _ => false)
      | _, _ => false)
    | _ => false
  | .lenS x => match o.op with
    | .call { callee := .builtin .len, args, argTypes } =>
      (match args.toList, argTypes.toList with
      | [y], [t] => chkX y x && isStr P t
      | _, _ => false)
    | _ => false
  | .ix x i => match o.op with
    | .index t a b => chkX a x && chkX b i && isStr P t
    | _ => false
  | .ia sz x i => match o.op with
    | .indexAddr t a b => chkX a x && chkX b i && (match P.underlying t with | some (.slice e) => P.cellsOf e == sz && (P.info? e).isSome | _ => false)
    | _ => false
  | .iaA m sz x i => match o.op with
    | .indexAddr t a b => chkX a x && chkX b i && (match P.underlying t with | some (.array m' e) => m == m' && P.cellsOf e == sz && (P.info? e).isSome | _ => false)
    | _ => false
  | .fa off x => match o.op with
    | .fieldAddr t a f => chkX a x && (match P.underlying t with | some (.struct fs) => (match fs[f]? with | some fl => fl.offset == off && (match P.info? fl.type with | some i => i.size != 0 | none => false) | none => false) | _ => false)
    | .nilCheck a => chkX a x && off == 0
    | _ => false
  | .ld ag m x => match o.op with
    | .load t a => chkX a x && isAggB P t == some ag && P.cellsOf t == m && (P.info? t).isSome
    | _ => false
  | .st m x v => match o.op with
    | .store t a b => chkX a x && chkX b v && P.cellsOf t == m && (P.info? t).isSome
    | _ => false
  | .alloc z => match o.op with
    | .alloc t => zeroOk P t z
    | _ => false
  | .bx _ x => match o.op with
    | .box _ y => chkX y x
    | _ => false
  | .bld z ps => match o.op with
    | .build t parts => zeroOk P t z && (match P.underlying t with
        | some (.struct fs) => chkParts (fun i => (fieldPlaces P fs)[i]?) parts.toList ps && fs.toList.all (fun f => (P.info? f.type).isSome)
        | some (.array _ e) => (P.info? e).isSome && chkParts (fun i => some (i * P.cellsOf e, P.cellsOf e)) parts.toList ps
        | _ => false)
    | _ => false
  | .bldS e z m ps => match o.op with
    | .buildSlice t m' parts => m == m' && (match P.underlying t with
        | some (.slice e') => e == e' && zeroOk P e z && decide (0 < z.length) && decide (m * z.length ≤ 16777216) && chkParts (fun i => some (i * z.length, z.length)) parts.toList ps
        | _ => false)
    | _ => false
  | .mkS e z bytes l c => match o.op with
    | .makeSlice t a b => chkX a l && chkX b c && (match P.underlying t with
        | some (.slice e') => e == e' && zeroOk P e z && decide (0 < z.length) && P.bytesOf e == bytes
        | _ => false)
    | _ => false
  | .app e sz bytes x y => match o.op with
    | .call { callee := .builtin .append, args, argTypes } =>
        (match args.toList, argTypes.toList with
        | [a, b], [t, t'] => t == t' && chkX a x && chkX b y && isSl P t e && P.cellsOf e == sz && P.bytesOf e == bytes && decide (0 < sz) && (match P.info? e with | some i => (match i.zero with | some v => v.cells.size == i.size | none => false) | none => false)
        | _, _ => false)
    | _ => false
  | .slc sz x lo hi => match o.op with
    | .slice t a l h none => chkX a x && chkXo l lo && chkXo h hi && (match P.underlying t with | some (.slice e) => P.cellsOf e == sz && (P.info? e).isSome | _ => false)
    | _ => false
  | .slS x lo hi => match o.op with
    | .slice t a l h none => chkX a x && chkXo l lo && chkXo h hi && isStr P t
    | _ => false
  | .mkf f caps => match o.op with
    | .makeFunc (.func f') first captured => f == f' && first.isEmpty && chkXs captured.toList caps
    | _ => false
  | .ext t i => match o.op with
    | .extract (.tmp t') i' => t == t' && i == i'
    | _ => false
  | .pick c a b => match o.op with
    | .pick c' a' b' => chkX c' c && chkX a' a && chkX b' b
    | _ => false
  | .fld ag off m x => match o.op with
    | .field t a f => chkX a x && (match P.underlying t with
        | some (.struct fs) => (match fs[f]? with | some fl => fl.offset == off && isAggB P fl.type == some ag && P.cellsOf fl.type == m && (P.info? fl.type).isSome | none => false)
        | _ => false)
    | _ => false
  | .ixA ag n m x i => match o.op with
    | .index t a b => chkX a x && chkX b i && (match P.underlying t with | some (.array n' e) => n == n' && isAggB P e == some ag && P.cellsOf e == m && (P.info? e).isSome | _ => false)
    | _ => false
  | .mm mx xs => match o.op with
    | .call { callee := .builtin b, args, argTypes := _ } => (match b with | .max => mx | .min => !mx | _ => false) && chkXs args.toList xs
    | _ => false
  | .call f args => match o.op with
    | .call { callee := .value (.func f'), args := as, argTypes := _ } => f == f' && chkXs as.toList args && (match P.funcs[f]? with | some fn => fn.body.isSome && fn.name != "runtime.NumGoroutine" | none => false)
    | _ => false
  | .callV t args => match o.op with
    | .call { callee := .value (.tmp t'), args := as, argTypes := _ } => t == t' && chkXs as.toList args
    | _ => false
  | .alG e => match o.op with
    | .alloc t => zeroOk P t [.sl 0 [.un]] && (match P.underlying t with | some (.slice e') => e == e' | _ => false)
    | _ => false
  | .lg t => match o.op with
    | .load ty (.tmp t') => t == t' && decide (t < GB) && isAggB P ty == some false && P.cellsOf ty == 1 && (P.info? ty).isSome
    | _ => false
  | .bldA z ps => match o.op with
    | .build t parts => zeroOk P t z && (match P.underlying t with
        | some (.struct fs) => chkParts (fun i => (fieldPlaces P fs)[i]?) parts.toList ps && fs.toList.all (fun f => (P.info? f.type).isSome)
        | some (.array _ e) => (P.info? e).isSome && chkParts (fun i => some (i * P.cellsOf e, P.cellsOf e)) parts.toList ps
        | _ => false)
    | _ => false
  | .bldL e z m ps => match o.op with
    | .buildSlice t m' parts => m == m' && (match P.underlying t with
        | some (.slice e') => e == e' && zeroOk P e z && decide (0 < z.length) && decide (m * z.length ≤ 16777216) && chkParts (fun i => some (i * z.length, z.length)) parts.toList ps
        | _ => false)
    | _ => false
  | .slA n sz x => match o.op with
    | .slice t a none none none => chkX a x && (match P.underlying t with | some (.array n' e) => n == n' && P.cellsOf e == sz && (P.info? e).isSome | _ => false)
    | _ => false
  | .s2a n sz x => match o.op with
    | .sliceToArrayPointer t a => chkX a x && (match P.underlying t with | some (.array n' e) => n == n' && P.cellsOf e == sz | _ => false)
    | _ => false
  | .faM t i => match o.op with
    | .fieldAddr ty (.tmp t') f => t == t' && (match P.underlying ty with | some (.struct fs) => (match fs[f]? with | some fl => fl.offset == i && (match P.info? fl.type with | some i => i.size != 0 | none => false) | none => false) | _ => false)
    | _ => false
  | .lgM p _ _ => match o.op with
    | .load ty (.tmp p') => p == p' && isAggB P ty == some false && P.cellsOf ty == 1 && (P.info? ty).isSome
    | _ => false
  | .sgM p _ _ v _ => match o.op with
    | .store ty (.tmp p') y => p == p' && chkX y v && P.cellsOf ty == 1 && (P.info? ty).isSome
    | _ => false
  | .ldM n t _ => match o.op with
    | .load ty (.tmp t') => t == t' && isAggB P ty == some true && P.cellsOf ty == n && (P.info? ty).isSome
    | _ => false
  | .bldQ a b => match o.op with
    | .build t parts => zeroOk P t [.sl 0 [], .sl 0 []] && (match P.underlying t with
        | some (.struct fs) => chkParts (fun i => (fieldPlaces P fs)[i]?) parts.toList [(0, 1, .v a), (1, 1, .v b)] && fs.toList.all (fun f => (P.info? f.type).isSome)
        | _ => false)
    | _ => false
  | .stQ t z => match o.op with
    | .store ty (.tmp t') (.tmp z') => t == t' && z == z' && P.cellsOf ty == 2 && (P.info? ty).isSome
    | _ => false
  | .lgD p _ _ => match o.op with
    | .load ty (.tmp p') => p == p' && isAggB P ty == some false && P.cellsOf ty == 1 && (P.info? ty).isSome
    | _ => false
  | .sgO t v _ | .sgP t v _ => match o.op with
    | .store ty (.tmp t') y => t == t' && chkX y v && P.cellsOf ty == 1 && (P.info? ty).isSome
    | _ => false

def K.reads : K → List Nat
  | .bad | .nil _ | .alloc _ | .alG _ => []
  | .lg t => [t]
  | .faM t _ => [t]
  | .lgM p t _ => [p, t]
  | .sgM p t _ v _ => p :: t :: v.reads
  | .ldM _ t fs => t :: fs
  | .bldQ a b => [a, b]
  | .stQ t z => [t, z, GF z 0, GF z 1]
  | .lgD p t i => [p, t, GF t i]
  | .sgO t v _ | .sgP t v _ => t :: v.reads
  | .mv x | .cp x | .sh x | .not x | .ng _ x | .cvI _ x | .cvS x | .cvSB x | .cvBS x | .len x | .lenS x | .fa _ x | .ld _ _ x | .bx _ x | .fld _ _ _ x | .en _ x | .slA _ _ x | .s2a _ _ x => x.reads
  | .tk t => [t]
  | .ari _ _ x y | .ci _ x y | .cat x y | .sc _ x y | .eqb _ x y | .eq _ _ x y | .ix x y | .ia _ x y | .iaA _ _ x y | .ixA _ _ _ x y | .st _ x y | .mkS _ _ _ x y | .app _ _ _ x y => x.reads ++ y.reads
  | .bld _ ps | .bldS _ _ _ ps | .bldA _ ps | .bldL _ _ _ ps => ps.flatMap fun p => p.2.2.reads
  | .slc _ x lo hi | .slS x lo hi => x.reads ++ lo.toList.flatMap PX.reads ++ hi.toList.flatMap PX.reads
  | .mkf _ xs | .mm _ xs | .call _ xs => xs.flatMap PX.reads
  | .ext t _ => [t]
  | .pick a b c => a.reads ++ b.reads ++ c.reads
  | .callV t xs => t :: xs.flatMap PX.reads

/-- slots whose memory is forgotten (given away, or written over as a whole) -/
def K.kills (dst : Nat) : K → List Nat
  | .tk t => [dst, t]
  | .app _ _ _ x _ => dst :: x.reads
  | .st .. => []
  | .alG _ => [dst, GB + dst]
  | .sgO t v ks => t :: (GB + t) :: (v.reads ++ ks)
  | .sgP t _ ks => t :: (GB + t) :: ks
  | .sgM p t i v ks => t :: GF t i :: p :: (v.reads ++ ks)
  | .bldQ a b => [dst, GF dst 0, GF dst 1, a, b]
  | .stQ t z => [t, GF t 0, GF t 1, z, GF z 0, GF z 1]
  | _ => [dst]

end Go.Pi

/-
  THE PROOFS, first part: operations whose result is a plain value and that touch no memory. Own work.
-/
namespace Go.Pi
open Go Go.RowKit

def Sound (P : Program) (k : K) : Prop :=
  ∀ {n : Nz} {S0 S : Nat → Nat → Prop} {w0 w : World} {O : Nat → Option Nat} {g : G} {tm : Array Value} {o : Oper} {dst : Nat} {l : List (Nat × D)},
    Inv P n S0 w0 S O g tm w → chkOp P o k = true → dst ∉ k.reads → n.Has dst → k.run dst g = some l →
    (∀ t s, aliasOf (g t) = some s → s ∈ k.kills dst → t ∈ k.kills dst) →
    ∃ v w', (execOp (rho tm) o).run P w = .ok (.value v) w' ∧ Good P n S0 w0 (upds g l) (tm.setIfInBounds dst v) w'

variable {P : Program} {n : Nz} {S0 S : Nat → Nat → Prop} {w0 w : World} {O : Nat → Option Nat} {g : G} {tm : Array Value} {o : Oper} {dst : Nat}

theorem Inv.val {d : D} {v : Value} (h : Inv P n S0 w0 S O g tm w) (hdst : n.Has dst) (hal : ∀ t s, aliasOf (g t) = some s → s ∈ [dst] → t ∈ [dst]) (hr : Rep S w d v)
    (hex : (execOp (rho tm) o).run P w = .ok (.value v) w) : ∃ v w', (execOp (rho tm) o).run P w = .ok (.value v) w' ∧ Good P n S0 w0 (upds g [(dst, d)]) (tm.setIfInBounds dst v) w' :=
  ⟨v, w, hex, _, _, _, h.setPure h.extRefl (fun _ _ x => x) (fun _ _ x => .inl x) hr hdst (fun t s h1 h2 => by simpa using hal t s h1 (by simpa using h2))⟩

theorem Rep.int_inv {k : IntKind} {m : Int} {v : Value} (h : Rep S w (.int k m) v) : v = .int k m := by cases h; rfl
theorem Rep.bool_inv {b : Bool} {v : Value} (h : Rep S w (.bool b) v) : v = .bool b := by cases h; rfl
theorem Rep.str_inv {l : List UInt8} {v : Value} (h : Rep S w (.str l) v) : v = .string ⟨l.toArray⟩ ∧ l.length ≤ maxLen := by cases h; exact ⟨rfl, by assumption⟩

theorem Inv.intOf (h : Inv P n S0 w0 S O g tm w) {y : Operand} {x : PX} {k : IntKind} {m : Int} (hx : chkX y x = true) (he : x.ev g = .int k m) : rho tm y = .int k m := by
  have := h.opnd hx (by rw [he]; rfl); rw [he] at this; exact this.int_inv
theorem Inv.boolOf (h : Inv P n S0 w0 S O g tm w) {y : Operand} {x : PX} {b : Bool} (hx : chkX y x = true) (he : x.ev g = .bool b) : rho tm y = .bool b := by
  have := h.opnd hx (by rw [he]; rfl); rw [he] at this; exact this.bool_inv
theorem Inv.strOf (h : Inv P n S0 w0 S O g tm w) {y : Operand} {x : PX} {l : List UInt8} (hx : chkX y x = true) (he : x.ev g = .str l) : rho tm y = .string ⟨l.toArray⟩ ∧ l.length ≤ maxLen := by
  have := h.opnd hx (by rw [he]; rfl); rw [he] at this; exact this.str_inv


theorem sound_ari (op : BinOp) (k : IntKind) (x y : PX) : Sound P (.ari op k x y) := by
  intro n S0 S w0 w O g tm o dst l hI hc hrd hdst hrun hal
  simp only [chkOp] at hc
  split at hc <;> try (cases hc; done)
  rename_i op' xt a b yt hop
  simp only [Bool.and_eq_true, beq_iff_eq] at hc
  obtain ⟨⟨rfl, h1⟩, h2⟩ := hc
  simp only [K.run] at hrun
  split at hrun <;> try (cases hrun; done)
  rename_i kx a' ky b' ha hb
  split at hrun <;> try (cases hrun; done)
  rename_i hk
  obtain ⟨rfl, rfl⟩ := hk
  rw [Option.map_eq_some_iff] at hrun
  obtain ⟨m, hm, rfl⟩ := hrun
  refine hI.val hdst (by simpa [K.kills] using hal) (.int _ _) ?_
  have e1 := hI.intOf h1 ha
  have e2 := hI.intOf h2 hb
  unfold arith at hm
  split at hm
  · cases hm; simp [execOp, hop, e1, e2, eqGuard, binOp, Op.intArith]
  · cases hm; simp [execOp, hop, e1, e2, eqGuard, binOp, Op.intArith]
  · cases hm; simp [execOp, hop, e1, e2, eqGuard, binOp, Op.intArith]
  · split at hm
    · cases hm
    · cases hm; simp [execOp, hop, e1, e2, eqGuard, binOp, Op.intDiv, *]
  · split at hm
    · cases hm
    · cases hm; simp [execOp, hop, e1, e2, eqGuard, binOp, Op.intDiv, *]
  · cases hm; simp [execOp, hop, e1, e2, eqGuard, binOp, Op.intBits, bitAnd]
  · cases hm

theorem sound_ci (op : BinOp) (x y : PX) : Sound P (.ci op x y) := by
  intro n S0 S w0 w O g tm o dst l hI hc hrd hdst hrun hal
  simp only [chkOp] at hc
  split at hc <;> try (cases hc; done)
  rename_i op' xt a b yt hop
  simp only [Bool.and_eq_true, beq_iff_eq] at hc
  obtain ⟨⟨rfl, h1⟩, h2⟩ := hc
  simp only [K.run] at hrun
  split at hrun <;> try (cases hrun; done)
  rename_i kx a' ky b' ha hb
  split at hrun <;> try (cases hrun; done)
  rename_i hk
  subst hk
  rw [Option.map_eq_some_iff] at hrun
  obtain ⟨m, hm, rfl⟩ := hrun
  refine hI.val hdst (by simpa [K.kills] using hal) (.bool _) ?_
  have e1 := hI.intOf h1 ha
  have e2 := hI.intOf h2 hb
  unfold cmpI at hm
  split at hm <;> cases hm <;> simp [execOp, hop, e1, e2, eqGuard, binOp, Op.intCmp]

theorem sound_cat (x y : PX) : Sound P (.cat x y) := by
  intro n S0 S w0 w O g tm o dst l hI hc hrd hdst hrun hal
  simp only [chkOp] at hc
  split at hc <;> try (cases hc; done)
  rename_i xt a b yt hop
  simp only [Bool.and_eq_true] at hc
  obtain ⟨h1, h2⟩ := hc
  simp only [K.run] at hrun
  split at hrun <;> try (cases hrun; done)
  rename_i la lb ha hb
  split at hrun <;> try (cases hrun; done)
  rename_i hk
  cases hrun
  refine hI.val hdst (by simpa [K.kills] using hal) (.str (la ++ lb) (by simpa using hk)) ?_
  have e1 := (hI.strOf h1 ha).1
  have e2 := (hI.strOf h2 hb).1
  have := run_string_add_sum (P := P) w ⟨la.toArray⟩ ⟨lb.toArray⟩ (by simpa [maxLen, ByteArray.size] using hk)
  have e3 : ((⟨la.toArray⟩ : ByteArray) ++ ⟨lb.toArray⟩) = ⟨(la ++ lb).toArray⟩ := by
    apply ByteArray.ext
    simp
  rw [e3] at this
  simp [execOp, hop, e1, e2, eqGuard, binOp, this]

theorem sound_sc (op : BinOp) (x y : PX) : Sound P (.sc op x y) := by
  intro n S0 S w0 w O g tm o dst l hI hc hrd hdst hrun hal
  simp only [chkOp] at hc
  split at hc <;> try (cases hc; done)
  rename_i op' xt a b yt hop
  simp only [Bool.and_eq_true, beq_iff_eq] at hc
  obtain ⟨⟨rfl, h1⟩, h2⟩ := hc
  simp only [K.run] at hrun
  split at hrun <;> try (cases hrun; done)
  rename_i la lb ha hb
  rw [Option.map_eq_some_iff] at hrun
  obtain ⟨m, hm, rfl⟩ := hrun
  refine hI.val hdst (by simpa [K.kills] using hal) (.bool _) ?_
  have e1 := (hI.strOf h1 ha).1
  have e2 := (hI.strOf h2 hb).1
  unfold cmpS at hm
  split at hm <;> cases hm <;> simp [execOp, hop, e1, e2, eqGuard, binOp, Op.stringOp, ByteArray.toList_mk]

theorem sound_not (x : PX) : Sound P (.not x) := by
  intro n S0 S w0 w O g tm o dst l hI hc hrd hdst hrun hal
  simp only [chkOp] at hc
  split at hc <;> try (cases hc; done)
  rename_i xt a hop
  simp only [K.run] at hrun
  split at hrun <;> try (cases hrun; done)
  rename_i b hb
  cases hrun
  refine hI.val hdst (by simpa [K.kills] using hal) (.bool _) ?_
  simp [execOp, hop, hI.boolOf hc hb, Op.unary]

theorem sound_ng (k : IntKind) (x : PX) : Sound P (.ng k x) := by
  intro n S0 S w0 w O g tm o dst l hI hc hrd hdst hrun hal
  simp only [chkOp] at hc
  split at hc <;> try (cases hc; done)
  rename_i xt a hop
  simp only [K.run] at hrun
  split at hrun <;> try (cases hrun; done)
  rename_i kx b hb
  split at hrun <;> try (cases hrun; done)
  rename_i hk
  subst hk
  cases hrun
  refine hI.val hdst (by simpa [K.kills] using hal) (.int _ _) ?_
  simp [execOp, hop, hI.intOf hc hb, Op.unary, Op.intArith]

theorem sound_cvI (k : IntKind) (x : PX) : Sound P (.cvI k x) := by
  intro n S0 S w0 w O g tm o dst l hI hc hrd hdst hrun hal
  simp only [chkOp] at hc
  split at hc <;> try (cases hc; done)
  rename_i st t a hop
  simp only [Bool.and_eq_true] at hc
  obtain ⟨⟨h1, h2⟩, h3⟩ := hc
  simp only [K.run] at hrun
  split at hrun <;> try (cases hrun; done)
  rename_i kx b hb
  cases hrun
  refine hI.val hdst (by simpa [K.kills] using hal) (.int _ _) ?_
  obtain ⟨u, hu⟩ := Option.isSome_iff_exists.1 h3
  simp [execOp, hop, hI.intOf h1 hb, convert, run_underlying hu, run_underlying (isInt_iff h2), Conv.intToInt]

theorem sound_cvS (x : PX) : Sound P (.cvS x) := by
  intro n S0 S w0 w O g tm o dst l hI hc hrd hdst hrun hal
  simp only [chkOp] at hc
  split at hc <;> try (cases hc; done)
  rename_i st t a hop
  simp only [Bool.and_eq_true] at hc
  obtain ⟨⟨h1, h2⟩, h3⟩ := hc
  simp only [K.run] at hrun
  split at hrun <;> try (cases hrun; done)
  rename_i b hb
  cases hrun
  refine hI.val hdst (by simpa [K.kills] using hal) (.str _ (hI.strOf h1 hb).2) ?_
  obtain ⟨u, hu⟩ := Option.isSome_iff_exists.1 h3
  simp [execOp, hop, (hI.strOf h1 hb).1, convert, run_underlying hu, run_underlying (isStr_iff h2)]

theorem sound_ix (x i : PX) : Sound P (.ix x i) := by
  intro n S0 S w0 w O g tm o dst l hI hc hrd hdst hrun hal
  simp only [chkOp] at hc
  split at hc <;> try (cases hc; done)
  rename_i t a b hop
  simp only [Bool.and_eq_true] at hc
  obtain ⟨⟨h1, h2⟩, h3⟩ := hc
  simp only [K.run] at hrun
  split at hrun <;> try (cases hrun; done)
  rename_i la k m ha hb
  split at hrun <;> try (cases hrun; done)
  rename_i hk
  cases hrun
  refine hI.val hdst (by simpa [K.kills] using hal) (.int _ _) ?_
  have hlt : m.toNat < la.length := by omega
  have e3 : ((⟨la.toArray⟩ : ByteArray))[m.toNat]? = some la[m.toNat] := by
    rw [getElem?_pos _ _ (by simpa [ByteArray.size] using hlt)]
    rfl
  simp [execOp, hop, (hI.strOf h1 ha).1, hI.intOf h2 hb, Instr.index, asIntOf, run_underlying (isStr_iff h3), hk.1, e3, List.getElem?_eq_getElem hlt]

theorem sound_pick (c a b : PX) : Sound P (.pick c a b) := by
  intro n S0 S w0 w O g tm o dst l hI hc hrd hdst hrun hal
  simp only [chkOp] at hc
  split at hc <;> try (cases hc; done)
  rename_i c' a' b' hop
  simp only [Bool.and_eq_true] at hc
  obtain ⟨⟨h1, h2⟩, h3⟩ := hc
  simp only [K.run] at hrun
  split at hrun <;> try (cases hrun; done)
  rename_i t ht
  have e1 := hI.boolOf h1 ht
  cases t
  · simp only [Bool.false_eq_true, if_false] at hrun
    split at hrun <;> try (cases hrun; done)
    rename_i hp
    cases hrun
    exact hI.val hdst (by simpa [K.kills] using hal) (hI.opnd h3 hp) (by simp [execOp, hop, e1, asBool])
  · simp only [if_true] at hrun
    split at hrun <;> try (cases hrun; done)
    rename_i hp
    cases hrun
    exact hI.val hdst (by simpa [K.kills] using hal) (hI.opnd h2 hp) (by simp [execOp, hop, e1, asBool])

theorem sound_ext (t i : Nat) : Sound P (.ext t i) := by
  intro n S0 S w0 w O g tm o dst l hI hc hrd hdst hrun hal
  simp only [chkOp] at hc
  split at hc <;> try (cases hc; done)
  rename_i t' i' hop
  simp only [Bool.and_eq_true, beq_iff_eq] at hc
  obtain ⟨rfl, rfl⟩ := hc
  simp only [K.run] at hrun
  split at hrun <;> try (cases hrun; done)
  rename_i vs hv
  rw [Option.bind_eq_some_iff] at hrun
  obtain ⟨d, hd, hrun⟩ := hrun
  split at hrun <;> try (cases hrun; done)
  cases hrun
  have hr := hI.rep (t := t) (by rw [hv]; rfl)
  rw [hv] at hr
  generalize hx : tm.getD t undef = x at hr
  cases hr with
  | tup ds us hl h =>
    have hi : i < us.length := by rw [← hl]; exact (List.getElem?_eq_some_iff.1 hd).1
    refine hI.val hdst (by simpa [K.kills] using hal) (h i d us[i] hd (List.getElem?_eq_getElem hi)) ?_
    simp only [execOp, hop, rho, hx]
    simp [Instr.extract, List.getElem?_eq_getElem hi]

theorem sliceOf {m : Nat} {cs : List D} {v : Value} (h : Rep S w (.sl m cs) v) : ∃ a cap, v = .slice a m cap := by
  cases h <;> exact ⟨_, _, rfl⟩

theorem OwnR.slice {ob : Option Nat} {wr : Bool} {e : TypeId} {m : Nat} {ds : List D} {v : Value} (h : OwnR P S w ob (.own wr e m ds) v) : ∃ a cap, v = .slice a m cap := by
  simp only [OwnR] at h
  rcases h with ⟨_, rfl, rfl, _⟩ | ⟨b, cap, _, _, rfl, _⟩
  · exact ⟨_, _, rfl⟩
  · exact ⟨_, _, rfl⟩

/-- an operand that reads as a slice is one -/
theorem Inv.sliceOf (h : Inv P n S0 w0 S O g tm w) {y : Operand} {x : PX} {m : Nat} {cs : List D} (hx : chkX y x = true) (he : (x.ev g).slv = some (m, cs)) :
    ∃ a cap, rho tm y = .slice a m cap := by
  cases hg : x.ev g <;> rw [hg] at he <;> simp only [D.slv] at he <;> cases he
  · have := h.opnd hx (by rw [hg]; rfl); rw [hg] at this; exact Pi.sliceOf this
  · obtain ⟨s, _, _, h3⟩ := h.opndOwn hx (by rw [hg]; rfl); rw [hg] at h3; exact h3.slice

theorem arr1 {α : Type} {a : Array α} {x : α} (h : a.toList = [x]) : a = #[x] := by apply Array.ext'; simpa using h
theorem arr2 {α : Type} {a : Array α} {x y : α} (h : a.toList = [x, y]) : a = #[x, y] := by apply Array.ext'; simpa using h

theorem sound_len (x : PX) : Sound P (.len x) := by
  intro n S0 S w0 w O g tm o dst l hI hc hrd hdst hrun hal
  simp only [chkOp] at hc
  split at hc <;> try (cases hc; done)
  rename_i args argTypes hop
  split at hc <;> try (cases hc; done)
  rename_i y t hy ht
  simp only [Bool.and_eq_true] at hc
  obtain ⟨h1, h2⟩ := hc
  split at h2 <;> try (cases h2; done)
  rename_i e hu
  cases arr1 hy; cases arr1 ht
  simp only [K.run] at hrun
  have key : ∀ m cs, (x.ev g).slv = some (m, cs) → l = [(dst, .int .i64 m)] → ∃ v w', (execOp (rho tm) o).run P w = .ok (.value v) w' ∧ Good P n S0 w0 (upds g l) (tm.setIfInBounds dst v) w' := by
    intro m cs hs hl
    subst hl
    obtain ⟨a, cap, e1⟩ := hI.sliceOf h1 hs
    refine hI.val hdst (by simpa [K.kills] using hal) (.int _ _) ?_
    simp [execOp, hop, resolve, invoke, builtin, e1, Builtin.len_, run_underlying hu, goInt]
  split at hrun
  all_goals try (cases hrun; done)
  · rename_i b cs hb
    cases hrun
    exact key _ _ (by rw [hb]; rfl) rfl
  · rename_i b cs hb
    cases hrun
    exact key _ _ (by rw [hb]; rfl) rfl

theorem sound_lenS (x : PX) : Sound P (.lenS x) := by
  intro n S0 S w0 w O g tm o dst l hI hc hrd hdst hrun hal
  simp only [chkOp] at hc
  split at hc <;> try (cases hc; done)
  rename_i args argTypes hop
  split at hc <;> try (cases hc; done)
  rename_i y t hy ht
  simp only [Bool.and_eq_true] at hc
  obtain ⟨h1, h2⟩ := hc
  cases arr1 hy; cases arr1 ht
  simp only [K.run] at hrun
  split at hrun
  all_goals try (cases hrun; done)
  rename_i b hb
  cases hrun
  refine hI.val hdst (by simpa [K.kills] using hal) (.int _ _) ?_
  have e2 : (⟨b.toArray⟩ : ByteArray).size = b.length := by show b.toArray.size = _; simp
  simp [execOp, hop, resolve, invoke, builtin, (hI.strOf h1 hb).1, Builtin.len_, run_underlying (isStr_iff h2), goInt, e2]

theorem chkXs_cons {ys : List Operand} {x : PX} {xs : List PX} (h : chkXs ys (x :: xs) = true) : ∃ y ys', ys = y :: ys' ∧ chkX y x = true ∧ chkXs ys' xs = true := by
  cases ys with
  | nil => simp [chkXs] at h
  | cons y ys => simp only [chkXs, Bool.and_eq_true] at h; exact ⟨y, ys, rfl, h.1, h.2⟩

theorem optAll_cons {α : Type} {x : Option α} {xs : List (Option α)} {a : α} {as : List α} (h : optAll (x :: xs) = some (a :: as)) : x = some a ∧ optAll xs = some as := by
  cases x with
  | none => simp [optAll] at h
  | some y =>
    simp only [optAll, Option.map_eq_some_iff] at h
    obtain ⟨l, h1, h2⟩ := h
    simp only [List.cons.injEq] at h2
    obtain ⟨rfl, rfl⟩ := h2
    exact ⟨rfl, h1⟩

theorem optAll_nil {α : Type} {xs : List (Option α)} (h : optAll xs = some []) : xs = [] := by
  cases xs with
  | nil => rfl
  | cons x xs => cases x <;> simp [optAll] at h

def mmF (mx : Bool) (m v : Int) : Int := if mx then (if v > m then v else m) else (if v < m then v else m)

theorem run_mm (hI : Inv P n S0 w0 S O g tm w) (mx : Bool) (k : IntKind) : ∀ (xs : List PX) (ys : List Operand) (r : List (IntKind × Int)) (m : Int), chkXs ys xs = true →
    optAll (xs.map fun x => kval (x.ev g)) = some r → (r.all fun p => p.1 = k) = true →
    ((ys.map (rho tm)).foldlM (if mx then Builtin.max2 else Builtin.min2) (.int k m) : Sem Value).run P w = .ok (.int k (r.foldl (fun m p => mmF mx m p.2) m)) w := by
  intro xs
  induction xs with
  | nil =>
    intro ys r m hx hr hk
    cases ys with
    | nil => simp [optAll] at hr; subst hr; simp
    | cons y ys => simp [chkXs] at hx
  | cons x xs ih =>
    intro ys r m hx hr hk
    obtain ⟨y, ys, rfl, h1, h2⟩ := chkXs_cons hx
    cases r with
    | nil => have := optAll_nil hr; simp at this
    | cons p r =>
      obtain ⟨h3, h4⟩ := optAll_cons hr
      change kval (x.ev g) = some p at h3
      simp only [List.all_cons, Bool.and_eq_true, decide_eq_true_eq] at hk
      cases hv : x.ev g <;> rw [hv] at h3 <;> simp only [kval] at h3 <;> cases h3
      have e1 := hI.intOf h1 hv
      simp only at hk
      obtain ⟨rfl, hk⟩ := hk
      rename_i v
      have := ih ys r (mmF mx m v) h2 h4 hk
      cases mx <;> simp_all [mmF, Builtin.max2, Builtin.min2]

theorem sound_mm (mx : Bool) (xs : List PX) : Sound P (.mm mx xs) := by
  intro n S0 S w0 w O g tm o dst l hI hc hrd hdst hrun hal
  simp only [chkOp] at hc
  split at hc <;> try (cases hc; done)
  rename_i b args argTypes hop
  simp only [Bool.and_eq_true] at hc
  obtain ⟨h1, h2⟩ := hc
  simp only [K.run] at hrun
  split at hrun <;> try (cases hrun; done)
  rename_i k m r hr
  split at hrun <;> try (cases hrun; done)
  rename_i hk
  cases hrun
  cases xs with
  | nil => simp [optAll] at hr
  | cons x xs =>
    obtain ⟨y, ys, hy, h3, h4⟩ := chkXs_cons h2
    obtain ⟨h5, h6⟩ := optAll_cons hr
    change kval (x.ev g) = some (k, m) at h5
    cases hv : x.ev g <;> rw [hv] at h5 <;> simp only [kval] at h5 <;> cases h5
    have e1 := hI.intOf h3 hv
    have ea : args = (y :: ys).toArray := by apply Array.ext'; simpa using hy
    subst ea
    have key := run_mm hI mx k xs ys r m h4 h6 (by simpa using hk)
    refine hI.val hdst (by simpa [K.kills] using hal) (.int _ _) ?_
    have ef : (fun m (p : IntKind × Int) => if mx = true then if p.2 > m then p.2 else m else if p.2 < m then p.2 else m) = fun m p => mmF mx m p.2 := by funext a b; rfl
    rw [ef]
    split at h1 <;> try (cases h1; done)
    · subst h1
      simp only [if_true] at key
      simp [execOp, hop, resolve, invoke, builtin, Builtin.max_, e1, key]
    · simp at h1; subst h1
      simp only [Bool.false_eq_true, if_false] at key
      simp [execOp, hop, resolve, invoke, builtin, Builtin.min_, e1, key]

theorem run_equalIn_nn {t : TypeId} {ms : Array (String × TypeId)} (hu : P.underlying t = some (.interface ms)) (d : Nat) : (Op.equalIn (d + 1) t .nilIface .nilIface).run P w = .ok true w := by
  simp [Op.equalIn, run_underlying hu]
theorem run_equalIn_sn {t : TypeId} {ms : Array (String × TypeId)} (hu : P.underlying t = some (.interface ms)) (u : TypeId) (x : Value) (d : Nat) : (Op.equalIn (d + 1) t (.iface u x) .nilIface).run P w = .ok false w := by
  simp [Op.equalIn, run_underlying hu]
theorem run_equal_nn {t : TypeId} {ms : Array (String × TypeId)} (hu : P.underlying t = some (.interface ms)) : (Op.equal t .nilIface .nilIface).run P w = .ok true w := run_equalIn_nn hu 9999
theorem run_equal_sn {t : TypeId} {ms : Array (String × TypeId)} (hu : P.underlying t = some (.interface ms)) (u : TypeId) (x : Value) : (Op.equal t (.iface u x) .nilIface).run P w = .ok false w := run_equalIn_sn hu u x 9999

theorem sound_en (neg : Bool) (x : PX) : Sound P (.en neg x) := by
  intro n S0 S w0 w O g tm o dst l hI hc hrd hdst hrun hal
  simp only [chkOp] at hc
  split at hc <;> try (cases hc; done)
  rename_i op t a yt hop
  simp only [Bool.and_eq_true] at hc
  obtain ⟨⟨h1, h2⟩, h3⟩ := hc
  split at h3 <;> try (cases h3; done)
  rename_i ms hu
  simp only [K.run] at hrun
  split at hrun <;> try (cases hrun; done)
  rename_i b hb
  cases hrun
  have hr := hI.opnd h2 (by rw [hb]; rfl)
  rw [hb] at hr
  refine hI.val hdst (by simpa [K.kills] using hal) (.bool _) ?_
  generalize he : rho tm a = v at hr
  have e0 : rho tm (.const .nilIface) = .nilIface := rfl
  have hq : op = if neg then .neq else .eql := by cases neg <;> simpa using h1
  cases hr with
  | errN => cases neg <;> simp only [if_true, Bool.false_eq_true, if_false] at hq <;> subst hq <;> simp [execOp, hop, he, e0, eqGuard, binOp, run_equal_nn hu, run_equal_sn hu]
  | errS u y => cases neg <;> simp only [if_true, Bool.false_eq_true, if_false] at hq <;> subst hq <;> simp [execOp, hop, he, e0, eqGuard, binOp, run_equal_nn hu, run_equal_sn hu]

end Go.Pi
