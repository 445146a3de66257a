/-
  WHICH PURE OPERATION STANDS FOR WHICH OPERATION OF THE MODEL: a check by program, and its proofs, first part: operations whose result is a plain value and that touch no memory. Own work.
-/
import Derived.Test.YthfgjhnckegneaaGreatDoorPiF
import Derived.WalkLawsBesides
namespace Go.Pi
open Go Go.RowKit

variable {P : Program} {n : Nz} {S0 S : Nat → Nat → Prop} {w0 w : World} {O : Nat → Option Nat} {g : G} {tm : Array Value}

def chkXs : List Operand → List PX → Bool
  | [], [] => true
  | y :: ys, x :: xs => chkX y x && chkXs ys xs
  | _, _ => false

def chkXo : Option Operand → Option PX → Bool
  | none, none => true
  | some y, some x => chkX y x
  | _, _ => false

def constsOk : List Value → List D → Bool
  | [], [] => true
  | v :: vs, d :: ds => constOk v d && d.one && constsOk vs ds
  | _, _ => false

/-- the zero value of a type, as cells -/
def zeroOk (P : Program) (t : TypeId) (z : List D) : Bool :=
  match P.info? t with
  | some i => match i.zero with
    | some v => constsOk v.cells.toList z && i.size == z.length
    | none => false
  | none => false

/-- the parts of a literal: for each part its place, its size and its operand -/
def chkParts (place : Nat → Option (Nat × Nat)) : List (Nat × Operand) → List (Nat × Nat × PX) → Bool
  | [], [] => true
  | (i, y) :: ys, (o, m, x) :: xs => place i == some (o, m) && chkX y x && chkParts place ys xs
  | _, _ => false

def fieldPlaces (P : Program) (fs : Array Field) : Array (Nat × Nat) := fs.map fun f => (f.offset, P.cellsOf f.type)

def isAggB (P : Program) (t : TypeId) : Option Bool :=
  match P.underlying t with
  | some (.struct _) | some (.array _ _) => some true
  | some _ => some false
  | none => none

/-- a struct of plain cells: bools, integers, strings, one beside the other -/
def flatFields (P : Program) : Nat → List Field → List Nat → Bool
  | _, [], [] => true
  | o, f :: fs, s :: sig => f.offset == o && f.name != "_" &&
    (match P.underlying f.type with | some .bool => s == 0 | some (.int _) => s == 1 | some .string => s == 2 | _ => false) && flatFields P (o + 1) fs sig
  | _, _, _ => false

def isInt (P : Program) (t : TypeId) (k : IntKind) : Bool := match P.underlying t with | some (.int k') => k' == k | _ => false
def isStr (P : Program) (t : TypeId) : Bool := match P.underlying t with | some .string => true | _ => false
def isSl (P : Program) (t e : TypeId) : Bool := match P.underlying t with | some (.slice e') => e' == e | _ => false
theorem isInt_iff {t : TypeId} {k : IntKind} (h : isInt P t k = true) : P.underlying t = some (.int k) := by unfold isInt at h; split at h <;> simp_all
theorem isStr_iff {t : TypeId} (h : isStr P t = true) : P.underlying t = some .string := by unfold isStr at h; split at h <;> simp_all
theorem isSl_iff {t e : TypeId} (h : isSl P t e = true) : P.underlying t = some (.slice e) := by unfold isSl at h; split at h <;> simp_all

def isBool (P : Program) (t : TypeId) : Bool := match P.underlying t with | some .bool => true | _ => false
theorem isBool_iff {t : TypeId} (h : isBool P t = true) : P.underlying t = some .bool := by unfold isBool at h; split at h <;> simp_all

def eqTy (P : Program) (t : TypeId) (sig : List Nat) : Bool :=
  match P.underlying t with
  | some (.struct fs) => flatFields P 0 fs.toList sig && !P.stoodInHeld t && !P.eqGuardType P.depth t
  | _ => false

def chkOp (P : Program) (o : Oper) : K → Bool
  | .bad => true
  | .mv x => match o.op with
    | .move y | .assign y => chkX y x
    | _ => false
  | .cp x => match o.op with
    | .move y | .assign y => chkX y x
    | _ => false
  | .sh x => match o.op with
    | .move y | .assign y => chkX y x
    | _ => false
  | .nil _ => match o.op with
    | .move (.const (.slice none 0 0)) | .assign (.const (.slice none 0 0)) => true
    | _ => false
  | .tk t => match o.op with
    | .move (.tmp t') | .assign (.tmp t') => t == t' && decide (t < GB)
    | _ => false
  | .ari op _ x y => match o.op with
    | .binOp op' _ a b _ => op == op' && chkX a x && chkX b y
    | _ => false
  | .ci op x y => match o.op with
    | .binOp op' _ a b _ => op == op' && chkX a x && chkX b y
    | _ => false
  | .cat x y => match o.op with
    | .binOp .add _ a b _ => chkX a x && chkX b y
    | _ => false
  | .sc op x y => match o.op with
    | .binOp op' _ a b _ => op == op' && chkX a x && chkX b y
    | _ => false
  | .eqb neg x y => match o.op with
    | .binOp op t a b _ => (if neg then op == .neq else op == .eql) && chkX a x && chkX b y && isBool P t
    | _ => false
  | .eq neg sig x y => match o.op with
    | .binOp op t a b _ => (if neg then op == .neq else op == .eql) && chkX a x && chkX b y && eqTy P t sig
    | _ => false
  | .en neg x => match o.op with
    | .binOp op t a (.const .nilIface) _ => (if neg then op == .neq else op == .eql) && chkX a x && (match P.underlying t with | some (.interface _) => true | _ => false)
    | _ => false
  | .not x => match o.op with
    | .unOp .not _ y => chkX y x
    | _ => false
  | .ng _ x => match o.op with
    | .unOp .neg _ y => chkX y x
    | _ => false
  | .cvI k x => match o.op with
    | .convert s t y => chkX y x && isInt P t k && (P.underlying s).isSome
    | _ => false
  | .cvS x => match o.op with
    | .convert s t y => chkX y x && isStr P t && (P.underlying s).isSome
    | _ => false
  | .cvSB x => match o.op with
    | .convert s t y => chkX y x && isStr P s && (match P.underlying t with | some (.slice e) => isInt P e .u8 | _ => false)
    | _ => false
  | .cvBS x => match o.op with
    | .convert s t y => chkX y x && isStr P t && (match P.underlying s with | some (.slice e) => isInt P e .u8 | _ => false)
    | _ => false
  | .len x => match o.op with
    | .call { callee := .builtin .len, args, argTypes } =>
      (match args.toList, argTypes.toList with
      | [y], [t] => chkX y x && (match P.underlying t with | some (.slice _) => true | _ => false)
      | _, _ => false)
    | _ => false
  | .lenS x => match o.op with
    | .call { callee := .builtin .len, args, argTypes } =>
      (match args.toList, argTypes.toList with
      | [y], [t] => chkX y x && isStr P t
      | _, _ => false)
    | _ => false
  | .ix x i => match o.op with
    | .index t a b => chkX a x && chkX b i && isStr P t
    | _ => false
  | .ia sz x i => match o.op with
    | .indexAddr t a b => chkX a x && chkX b i && (match P.underlying t with | some (.slice e) => P.cellsOf e == sz && (P.info? e).isSome | _ => false)
    | _ => false
  | .iaA m sz x i => match o.op with
    | .indexAddr t a b => chkX a x && chkX b i && (match P.underlying t with | some (.array m' e) => m == m' && P.cellsOf e == sz && (P.info? e).isSome | _ => false)
    | _ => false
  | .fa off x => match o.op with
    | .fieldAddr t a f => chkX a x && (match P.underlying t with | some (.struct fs) => (match fs[f]? with | some fl => fl.offset == off && (match P.info? fl.type with | some i => i.size != 0 | none => false) | none => false) | _ => false)
    | _ => false
  | .ld ag m x => match o.op with
    | .load t a => chkX a x && isAggB P t == some ag && P.cellsOf t == m && (P.info? t).isSome
    | _ => false
  | .st m x v => match o.op with
    | .store t a b => chkX a x && chkX b v && P.cellsOf t == m && (P.info? t).isSome
    | _ => false
  | .alloc z => match o.op with
    | .alloc t => zeroOk P t z
    | _ => false
  | .bx _ x => match o.op with
    | .box _ y => chkX y x
    | _ => false
  | .bld z ps => match o.op with
    | .build t parts => zeroOk P t z && (match P.underlying t with
        | some (.struct fs) => chkParts (fun i => (fieldPlaces P fs)[i]?) parts.toList ps && fs.toList.all (fun f => (P.info? f.type).isSome)
        | some (.array _ e) => (P.info? e).isSome && chkParts (fun i => some (i * P.cellsOf e, P.cellsOf e)) parts.toList ps
        | _ => false)
    | _ => false
  | .bldS e z m ps => match o.op with
    | .buildSlice t m' parts => m == m' && (match P.underlying t with
        | some (.slice e') => e == e' && zeroOk P e z && decide (0 < z.length) && decide (m * z.length ≤ 16777216) && chkParts (fun i => some (i * z.length, z.length)) parts.toList ps
        | _ => false)
    | _ => false
  | .mkS e z bytes l c => match o.op with
    | .makeSlice t a b => chkX a l && chkX b c && (match P.underlying t with
        | some (.slice e') => e == e' && zeroOk P e z && decide (0 < z.length) && P.bytesOf e == bytes
        | _ => false)
    | _ => false
  | .app e sz bytes x y => match o.op with
    | .call { callee := .builtin .append, args, argTypes } =>
        (match args.toList, argTypes.toList with
        | [a, b], [t, t'] => t == t' && chkX a x && chkX b y && isSl P t e && P.cellsOf e == sz && P.bytesOf e == bytes && decide (0 < sz) && (match P.info? e with | some i => (match i.zero with | some v => v.cells.size == i.size | none => false) | none => false)
        | _, _ => false)
    | _ => false
  | .slc sz x lo hi => match o.op with
    | .slice t a l h none => chkX a x && chkXo l lo && chkXo h hi && (match P.underlying t with | some (.slice e) => P.cellsOf e == sz && (P.info? e).isSome | _ => false)
    | _ => false
  | .slS x lo hi => match o.op with
    | .slice t a l h none => chkX a x && chkXo l lo && chkXo h hi && isStr P t
    | _ => false
  | .mkf f caps => match o.op with
    | .makeFunc (.func f') first captured => f == f' && first.isEmpty && chkXs captured.toList caps
    | _ => false
  | .ext t i => match o.op with
    | .extract (.tmp t') i' => t == t' && i == i'
    | _ => false
  | .pick c a b => match o.op with
    | .pick c' a' b' => chkX c' c && chkX a' a && chkX b' b
    | _ => false
  | .fld ag off m x => match o.op with
    | .field t a f => chkX a x && (match P.underlying t with
        | some (.struct fs) => (match fs[f]? with | some fl => fl.offset == off && isAggB P fl.type == some ag && P.cellsOf fl.type == m && (P.info? fl.type).isSome | none => false)
        | _ => false)
    | _ => false
  | .mm mx xs => match o.op with
    | .call { callee := .builtin b, args, argTypes := _ } => (match b with | .max => mx | .min => !mx | _ => false) && chkXs args.toList xs
    | _ => false
  | .call f args => match o.op with
    | .call { callee := .value (.func f'), args := as, argTypes := _ } => f == f' && chkXs as.toList args && (match P.funcs[f]? with | some fn => fn.body.isSome && fn.name != "runtime.NumGoroutine" | none => false)
    | _ => false
  | .callV t args => match o.op with
    | .call { callee := .value (.tmp t'), args := as, argTypes := _ } => t == t' && chkXs as.toList args
    | _ => false
  | .alG e => match o.op with
    | .alloc t => zeroOk P t [.sl 0 [.un]] && (match P.underlying t with | some (.slice e') => e == e' | _ => false)
    | _ => false
  | .lg t => match o.op with
    | .load ty (.tmp t') => t == t' && decide (t < GB) && isAggB P ty == some false && P.cellsOf ty == 1 && (P.info? ty).isSome
    | _ => false
  | .sgO t v _ | .sgP t v _ => match o.op with
    | .store ty (.tmp t') y => t == t' && chkX y v && P.cellsOf ty == 1 && (P.info? ty).isSome
    | _ => false

def K.reads : K → List Nat
  | .bad | .nil _ | .alloc _ | .alG _ => []
  | .lg t => [t]
  | .sgO t v _ | .sgP t v _ => t :: v.reads
  | .mv x | .cp x | .sh x | .not x | .ng _ x | .cvI _ x | .cvS x | .cvSB x | .cvBS x | .len x | .lenS x | .fa _ x | .ld _ _ x | .bx _ x | .fld _ _ _ x | .en _ x => x.reads
  | .tk t => [t]
  | .ari _ _ x y | .ci _ x y | .cat x y | .sc _ x y | .eqb _ x y | .eq _ _ x y | .ix x y | .ia _ x y | .iaA _ _ x y | .st _ x y | .mkS _ _ _ x y | .app _ _ _ x y => x.reads ++ y.reads
  | .bld _ ps | .bldS _ _ _ ps => ps.flatMap fun p => p.2.2.reads
  | .slc _ x lo hi | .slS x lo hi => x.reads ++ lo.toList.flatMap PX.reads ++ hi.toList.flatMap PX.reads
  | .mkf _ xs | .mm _ xs | .call _ xs => xs.flatMap PX.reads
  | .ext t _ => [t]
  | .pick a b c => a.reads ++ b.reads ++ c.reads
  | .callV t xs => t :: xs.flatMap PX.reads

/-- slots whose memory is forgotten (given away, or written over as a whole) -/
def K.kills (dst : Nat) : K → List Nat
  | .tk t => [dst, t]
  | .app _ _ _ x _ => dst :: x.reads
  | .st .. => []
  | .alG _ => [dst, GB + dst]
  | .sgO t v ks => t :: (GB + t) :: (v.reads ++ ks)
  | .sgP t _ ks => t :: (GB + t) :: ks
  | _ => [dst]

end Go.Pi
