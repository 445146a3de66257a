/-
  DATA AND HOW A VALUE REPRESENTS IT. Own work: a pure reading of the model's values: slices as lists of cells, strings as lists of bytes.
  'Rep S w d v': in the world w the value v reads as the data d, and every cell that is read lies in the set S of cells that nobody writes any more.
-/
import Derived.WalkKit
set_option linter.unusedVariables false
set_option linter.unusedSimpArgs false
namespace Go.Pi
open Go

inductive D where
  | un
  | bool (b : Bool)
  | int (k : IntKind) (n : Int)
  | str (s : List UInt8)
  | agg (cs : List D)
  | tup (vs : List D)
  | sl (n : Nat) (cs : List D)
  | pt (cs : List D)
  | clo (f : FuncId) (caps : List D)
  | err (isNil : Bool)
  | own (w : Bool) (e : TypeId) (n : Nat) (cs : List D)
  | box (w : Bool) (cs : List D)
  | al (s : Nat)
  | gbox (G : Nat)
  | mbx (cs : List D)
  | mag (cs : List D)
  | rf (s off : Nat)
  | nilp
  | opq
  deriving Inhabited

def D.isPure : D → Bool
  | .un | .own .. | .box .. | .al _ | .rf .. | .gbox _ | .mbx _ | .mag .. => false
  | _ => true

/-- one cell of memory -/
def D.one : D → Bool
  | .bool _ | .int .. | .str _ | .sl .. | .pt _ | .clo .. | .err _ | .opq | .nilp => true
  | _ => false

def D.cells : D → List D
  | .agg cs => cs
  | d => [d]

/-- the cells of a value in memory from (b, off) on, all of them in S -/
def Row (S : Nat → Nat → Prop) (w : World) (b off : Nat) (vs : List Value) : Prop :=
  ∀ i v, vs[i]? = some v → S b (off + i) ∧ w.cell? ⟨b, off + i, none⟩ = some v

inductive Rep (S : Nat → Nat → Prop) (w : World) : D → Value → Prop where
  | bool (b : Bool) : Rep S w (.bool b) (.bool b)
  | int (k : IntKind) (n : Int) : Rep S w (.int k n) (.int k n)
  | str (l : List UInt8) (h : l.length ≤ maxLen) : Rep S w (.str l) (.string ⟨l.toArray⟩)
  | agg (ds : List D) (vs : List Value) (hl : ds.length = vs.length) (h1 : ∀ d ∈ ds, d.one = true)
      (h : ∀ (i : Nat) (d : D) (v : Value), ds[i]? = some d → vs[i]? = some v → Rep S w d v) : Rep S w (.agg ds) (.agg vs.toArray)
  | tup (ds : List D) (vs : List Value) (hl : ds.length = vs.length)
      (h : ∀ (i : Nat) (d : D) (v : Value), ds[i]? = some d → vs[i]? = some v → Rep S w d v) : Rep S w (.tup ds) (.tuple vs.toArray)
  | sl0 (a : Option Addr) (cap : Nat) (hc : cap ≤ maxLen) : Rep S w (.sl 0 []) (.slice a 0 cap)
  | slN : Rep S w (.sl 0 [.un]) (.slice none 0 0)
  | sl (n : Nat) (ds : List D) (b off cap : Nat) (vs : List Value) (hl : ds.length = vs.length) (h1 : ∀ d ∈ ds, d.one = true) (hn : n ≤ cap) (hc : cap ≤ maxLen) (hr : Row S w b off vs)
      (h : ∀ (i : Nat) (d : D) (v : Value), ds[i]? = some d → vs[i]? = some v → Rep S w d v) : Rep S w (.sl n ds) (.slice (some ⟨b, off, none⟩) n cap)
  | pt (ds : List D) (b off : Nat) (vs : List Value) (hl : ds.length = vs.length) (h1 : ∀ d ∈ ds, d.one = true) (hr : Row S w b off vs)
      (h : ∀ (i : Nat) (d : D) (v : Value), ds[i]? = some d → vs[i]? = some v → Rep S w d v) : Rep S w (.pt ds) (.pointer (some ⟨b, off, none⟩))
  | clo (f : FuncId) (ds : List D) (vs : List Value) (hl : ds.length = vs.length)
      (h : ∀ (i : Nat) (d : D) (v : Value), ds[i]? = some d → vs[i]? = some v → Rep S w d v) : Rep S w (.clo f ds) (.func (.func f) #[] vs.toArray)
  | errN : Rep S w (.err true) .nilIface
  | errS (t : TypeId) (x : Value) : Rep S w (.err false) (.iface t x)
  | nilP : Rep S w .nilp (.pointer none)
  | opq (v : Value) (h : v.oneCell' = true) : Rep S w .opq v

/-- the list of data is represented by the list of values -/
def Reps (S : Nat → Nat → Prop) (w : World) (ds : List D) (vs : List Value) : Prop :=
  ds.length = vs.length ∧ ∀ (i : Nat) (d : D) (v : Value), ds[i]? = some d → vs[i]? = some v → Rep S w d v

theorem Row.mono {S S' : Nat → Nat → Prop} {w w' : World} {b off : Nat} {vs : List Value} (h : Row S w b off vs)
    (hS : ∀ b o, S b o → S' b o) (hw : ∀ b o, S b o → w'.cell? ⟨b, o, none⟩ = w.cell? ⟨b, o, none⟩) : Row S' w' b off vs :=
  fun i v hi => ⟨hS _ _ (h i v hi).1, (hw _ _ (h i v hi).1).trans (h i v hi).2⟩

theorem Rep.mono {S S' : Nat → Nat → Prop} {w w' : World} (hS : ∀ b o, S b o → S' b o) (hw : ∀ b o, S b o → w'.cell? ⟨b, o, none⟩ = w.cell? ⟨b, o, none⟩)
    {d : D} {v : Value} (h : Rep S w d v) : Rep S' w' d v := by
  induction h with
  | bool b => exact .bool b
  | int k n => exact .int k n
  | str l h => exact .str l h
  | agg ds vs hl h1 h ih => exact .agg ds vs hl h1 ih
  | tup ds vs hl h ih => exact .tup ds vs hl ih
  | sl0 a cap hc => exact .sl0 a cap hc
  | slN => exact .slN
  | sl n ds b off cap vs hl h1 hn hc hr h ih => exact .sl n ds b off cap vs hl h1 hn hc (hr.mono hS hw) ih
  | pt ds b off vs hl h1 hr h ih => exact .pt ds b off vs hl h1 (hr.mono hS hw) ih
  | clo f ds vs hl h ih => exact .clo f ds vs hl ih
  | errN => exact .errN
  | errS t x => exact .errS t x
  | nilP => exact .nilP
  | opq v h => exact .opq v h

theorem Reps.mono {S S' : Nat → Nat → Prop} {w w' : World} (hS : ∀ b o, S b o → S' b o) (hw : ∀ b o, S b o → w'.cell? ⟨b, o, none⟩ = w.cell? ⟨b, o, none⟩)
    {ds : List D} {vs : List Value} (h : Reps S w ds vs) : Reps S' w' ds vs := ⟨h.1, fun i d v hd hv => (h.2 i d v hd hv).mono hS hw⟩

theorem Rep.pure {S : Nat → Nat → Prop} {w : World} {d : D} {v : Value} (h : Rep S w d v) : d.isPure = true := by cases h <;> rfl

theorem Rep.oneCell {S : Nat → Nat → Prop} {w : World} {d : D} {v : Value} (h : Rep S w d v) (h1 : d.one = true) : v.oneCell' = true := by
  cases h <;> first | rfl | assumption | simp [D.one] at h1

theorem Rep.one_of {S : Nat → Nat → Prop} {w : World} {d : D} {v : Value} (h : Rep S w d v) (h1 : d.one = true) : v.cells = #[v] := by
  cases h
  case opq h => cases v <;> simp_all [Value.oneCell', Value.cells]
  all_goals first | rfl | simp [D.one] at h1

theorem Reps.nil {S : Nat → Nat → Prop} {w : World} : Reps S w [] [] := ⟨rfl, fun i d v h => by simp at h⟩

theorem Reps.cons {S : Nat → Nat → Prop} {w : World} {d : D} {v : Value} {ds : List D} {vs : List Value} (h : Rep S w d v) (hs : Reps S w ds vs) : Reps S w (d :: ds) (v :: vs) := by
  refine ⟨by simp [hs.1], fun i e u he hu => ?_⟩
  cases i with
  | zero => simp at he hu; subst he; subst hu; exact h
  | succ i => exact hs.2 i e u (by simpa using he) (by simpa using hu)

theorem Reps.head {S : Nat → Nat → Prop} {w : World} {d : D} {v : Value} {ds : List D} {vs : List Value} (h : Reps S w (d :: ds) (v :: vs)) : Rep S w d v := h.2 0 d v rfl rfl
theorem Reps.tail {S : Nat → Nat → Prop} {w : World} {d : D} {v : Value} {ds : List D} {vs : List Value} (h : Reps S w (d :: ds) (v :: vs)) : Reps S w ds vs :=
  ⟨by simpa using h.1, fun i e u he hu => h.2 (i + 1) e u (by simpa using he) (by simpa using hu)⟩

theorem Reps.app {S : Nat → Nat → Prop} {w : World} {ds es : List D} {vs us : List Value} (h : Reps S w ds vs) (k : Reps S w es us) : Reps S w (ds ++ es) (vs ++ us) := by
  refine ⟨by simp [h.1, k.1], fun i e u he hu => ?_⟩
  by_cases hi : i < ds.length
  · rw [List.getElem?_append_left hi] at he
    rw [List.getElem?_append_left (by rw [← h.1]; exact hi)] at hu
    exact h.2 i e u he hu
  · rw [List.getElem?_append_right (by omega)] at he
    rw [List.getElem?_append_right (by rw [← h.1]; omega)] at hu
    rw [← h.1] at hu
    exact k.2 _ e u he hu

theorem Reps.take {S : Nat → Nat → Prop} {w : World} {ds : List D} {vs : List Value} (h : Reps S w ds vs) (n : Nat) : Reps S w (ds.take n) (vs.take n) := by
  refine ⟨by simp [h.1], fun i e u he hu => ?_⟩
  rw [List.getElem?_take] at he hu
  split at he
  · rename_i hi; rw [if_pos hi] at hu; exact h.2 i e u he hu
  · cases he

theorem Reps.drop {S : Nat → Nat → Prop} {w : World} {ds : List D} {vs : List Value} (h : Reps S w ds vs) (n : Nat) : Reps S w (ds.drop n) (vs.drop n) := by
  refine ⟨by simp [h.1], fun i e u he hu => ?_⟩
  rw [List.getElem?_drop] at he hu
  exact h.2 _ e u he hu

theorem Reps.get {S : Nat → Nat → Prop} {w : World} {ds : List D} {vs : List Value} (h : Reps S w ds vs) {i : Nat} {d : D} (hd : ds[i]? = some d) : ∃ v, vs[i]? = some v ∧ Rep S w d v := by
  have hi : i < vs.length := by rw [← h.1]; exact (List.getElem?_eq_some_iff.1 hd).1
  exact ⟨vs[i], List.getElem?_eq_getElem hi, h.2 i d _ hd (List.getElem?_eq_getElem hi)⟩

theorem Reps.set {S : Nat → Nat → Prop} {w : World} {ds : List D} {vs : List Value} (h : Reps S w ds vs) (i : Nat) {d : D} {v : Value} (hr : Rep S w d v) : Reps S w (ds.set i d) (vs.set i v) := by
  refine ⟨by simp [h.1], fun j e u he hu => ?_⟩
  rw [List.getElem?_set] at he hu
  by_cases hij : i = j
  · subst hij
    simp only [if_true] at he hu
    split at he
    · rw [if_pos (by rw [← h.1]; assumption)] at hu
      cases he; cases hu; exact hr
    · cases he
  · rw [if_neg hij] at he hu
    exact h.2 j e u he hu

/-- the cells of a value -/
theorem Rep.cellsReps {S : Nat → Nat → Prop} {w : World} {d : D} {v : Value} (h : Rep S w d v) (hc : d.one = true ∨ ∃ cs, d = .agg cs) :
    Reps S w d.cells v.cells.toList ∧ (∀ x ∈ d.cells, x.one = true) := by
  rcases hc with h1 | ⟨cs, rfl⟩
  · have hd : d.cells = [d] := by cases d <;> first | rfl | simp [D.one] at h1
    rw [hd, h.one_of h1]
    exact ⟨.cons h .nil, by simpa using h1⟩
  · cases h with
    | agg ds vs hl h1 h => exact ⟨⟨hl, h⟩, h1⟩

theorem Row.take {S : Nat → Nat → Prop} {w : World} {b off : Nat} {vs : List Value} (h : Row S w b off vs) (n : Nat) : Row S w b off (vs.take n) := by
  intro i v hi
  rw [List.getElem?_take] at hi
  split at hi
  · exact h i v hi
  · cases hi

theorem Row.drop {S : Nat → Nat → Prop} {w : World} {b off : Nat} {vs : List Value} (h : Row S w b off vs) (n : Nat) : Row S w b (off + n) (vs.drop n) := by
  intro i v hi
  rw [List.getElem?_drop] at hi
  have := h (n + i) v hi
  rwa [← Nat.add_assoc] at this

end Go.Pi

/-
  THE PURE OPERATIONS: what each operation of the translated code does to data. Own work.
  A frame is read as a function from slots to data; an operation gives the list of the slots that it writes with their new data, or nothing (then nothing is claimed).
-/
namespace Go.Pi
open Go

abbrev G := Nat → D

inductive PX where
  | v (t : Nat)
  | k (d : D)
  | o (t s : Nat)
  deriving Inhabited

/-- what an operand reads: a slot, a constant, or (for a slot that is another name for slot s) the slot s -/
def PX.ev (g : G) : PX → D
  | .v t => g t
  | .k d => d
  | .o t s => match g t with
    | .al s' => if s' = s then g s else .un
    | .own .. | .box .. | .gbox _ | .mbx _ | .mag .. => .un
    | d => d

def PX.reads : PX → List Nat
  | .v t => [t]
  | .k _ => []
  | .o t s => [t, s]

/-- the slot whose own memory is meant -/
def PX.slot : PX → Option Nat
  | .v t => some t
  | .k _ => none
  | .o _ s => some s

/-- data as a slice -/
def D.slv : D → Option (Nat × List D)
  | .sl n cs => some (n, cs)
  | .own _ _ n cs => some (n, cs)
  | _ => none

/-- data as it is handed on: what is owned reads as a plain slice, a box as a pointer -/
def D.plain : D → D
  | .own _ _ n cs => .sl n cs
  | .box _ cs => .pt cs
  | d => d

/-- data without memory behind it -/
def D.simple : D → Bool
  | .bool _ | .int .. | .str _ | .err _ => true
  | _ => false
def D.flat0 : D → Bool
  | .agg cs => cs.all D.simple
  | d => d.simple
def D.flat : D → Bool
  | .tup vs => vs.all D.flat0
  | d => d.flat0

inductive Where where
  | own (s off : Nat)
  | imm (cs : List D)

/-- where an address points: into the memory of a slot, or at cells that nobody writes -/
def PX.at (g : G) : PX → Option Where
  | .v t => match g t with
    | .box _ _ => some (.own t 0)
    | .pt cs => some (.imm cs)
    | _ => none
  | .o t s => match g t with
    | .rf s' off => if s' = s then some (.own s off) else none
    | .al s' => if s' = s then (match g s with | .box _ _ => some (.own s 0) | _ => none) else none
    | .pt cs => some (.imm cs)
    | _ => none
  | .k _ => none

/-- the cells that a slot owns -/
def D.mem : D → List D
  | .own _ _ _ cs => cs
  | .box _ cs => cs
  | _ => []

def D.setMem (cs : List D) : D → D
  | .own w e n _ => .own w e n cs
  | .box w _ => .box w cs
  | d => d

def D.wr : D → Bool
  | .own w _ _ _ => w
  | .box w _ => w
  | _ => false

def Where.cells (g : G) : Where → List D
  | .own s off => (g s).mem.drop off
  | .imm cs => cs

/-- cells put over others from a place on -/
def splice (cs : List D) (off : Nat) (new : List D) : List D := cs.take off ++ new ++ cs.drop (off + new.length)

def fillD (z : List D) : List (Nat × Nat × D) → Option (List D)
  | [] => some z
  | (off, n, d) :: r => if d.cells.length = n ∧ off + n ≤ z.length ∧ d.cells.all D.one = true ∧ d.isPure = true then fillD (splice z off d.cells) r else none

/-- the common bits -/
def bitAnd (k : IntKind) (x y : Int) : Int := k.wrap ((BitVec.ofInt k.bits x &&& BitVec.ofInt k.bits y).toNat)
def arith (op : BinOp) (k : IntKind) (x y : Int) : Option Int :=
  match op with
  | .add => some (k.wrap (x + y))
  | .sub => some (k.wrap (x - y))
  | .mul => some (k.wrap (x * y))
  | .quo => if y = 0 then none else some (k.wrap (x.tdiv y))
  | .rem => if y = 0 then none else some (x.tmod y)
  | .and => some (bitAnd k x y)
  | _ => none

def cmpI (op : BinOp) (x y : Int) : Option Bool :=
  match op with
  | .eql => some (x == y)
  | .neq => some (x != y)
  | .lss => some (decide (x < y))
  | .leq => some (decide (x ≤ y))
  | .gtr => some (decide (x > y))
  | .geq => some (decide (x ≥ y))
  | _ => none

def cmpS (op : BinOp) (x y : List UInt8) : Option Bool :=
  match op with
  | .eql => some (x == y)
  | .neq => some (!(x == y))
  | .lss => some (Op.bytesLess x y)
  | .leq => some (Op.bytesLess x y || x == y)
  | .gtr => some (!(Op.bytesLess x y || x == y))
  | .geq => some (!Op.bytesLess x y)
  | _ => none

/-- equality of structs of plain cells, by their kinds: 0 a bool, 1 an integer, 2 a string -/
def eqSig : List Nat → List D → List D → Option Bool
  | [], [], [] => some true
  | 0 :: s, .bool a :: x, .bool b :: y => if a == b then eqSig s x y else some false
  | 1 :: s, .int k a :: x, .int k' b :: y => if k = k' then (if a == b then eqSig s x y else some false) else none
  | 2 :: s, .str a :: x, .str b :: y => if a == b then eqSig s x y else some false
  | _, _, _ => none

/-- a slice of a list of cells -/
def cut (sz lo hi : Nat) (cs : List D) : List D := (cs.take (hi * sz)).drop (lo * sz)

def bytesOf : List D → Option (List UInt8)
  | [] => some []
  | .int .u8 n :: r => if 0 ≤ n ∧ n < 256 then (bytesOf r).map (UInt8.ofNat n.toNat :: ·) else none
  | _ => none

inductive K where
  | bad
  | mv (x : PX)
  | cp (x : PX)
  | nil (e : TypeId)
  | tk (t : Nat)
  | sh (x : PX)
  | ari (op : BinOp) (k : IntKind) (x y : PX)
  | ci (op : BinOp) (x y : PX)
  | cat (x y : PX)
  | sc (op : BinOp) (x y : PX)
  | eqb (neg : Bool) (x y : PX)
  | eq (neg : Bool) (sig : List Nat) (x y : PX)
  | en (neg : Bool) (x : PX)
  | not (x : PX)
  | ng (k : IntKind) (x : PX)
  | cvI (k : IntKind) (x : PX)
  | cvS (x : PX)
  | cvSB (x : PX)
  | cvBS (x : PX)
  | len (x : PX)
  | lenS (x : PX)
  | ix (x i : PX)
  | ia (sz : Nat) (x i : PX)
  | iaA (n sz : Nat) (x i : PX)
  | fa (off : Nat) (x : PX)
  | ld (ag : Bool) (n : Nat) (x : PX)
  | st (n : Nat) (x v : PX)
  | alloc (z : List D)
  | bx (n : Nat) (x : PX)
  | bld (z : List D) (ps : List (Nat × Nat × PX))
  | bldS (e : Nat) (z : List D) (n : Nat) (ps : List (Nat × Nat × PX))
  | mkS (e : Nat) (z : List D) (bytes : Nat) (l c : PX)
  | app (e sz bytes : Nat) (x y : PX)
  | slc (sz : Nat) (x : PX) (lo hi : Option PX)
  | slS (x : PX) (lo hi : Option PX)
  | mkf (f : FuncId) (caps : List PX)
  | ext (t i : Nat)
  | pick (c a b : PX)
  | fld (ag : Bool) (off n : Nat) (x : PX)
  | ixA (ag : Bool) (n m : Nat) (x i : PX)
  | mm (mx : Bool) (xs : List PX)
  | call (f : FuncId) (args : List PX)
  | callV (t : Nat) (args : List PX)
  | alG (e : TypeId)
  | lg (t : Nat)
  | sgO (t : Nat) (v : PX) (ks : List Nat)
  | sgP (t : Nat) (v : PX) (ks : List Nat)
  | bldA (z : List D) (ps : List (Nat × Nat × PX))
  | bldL (e : Nat) (z : List D) (n : Nat) (ps : List (Nat × Nat × PX))
  | slA (n sz : Nat) (x : PX)
  | s2a (n sz : Nat) (x : PX)
  | faM (t i : Nat)
  | lgM (p t i : Nat)
  | sgM (p t i : Nat) (v : PX) (ks : List Nat)
  | ldM (n t : Nat) (fs : List Nat)
  | bldQ (a b : Nat)
  | stQ (t z : Nat)
  | lgD (p t i : Nat)
  deriving Inhabited

def ival : D → Option Int
  | .int _ n => some n
  | _ => none

def kval : D → Option (IntKind × Int)
  | .int k n => some (k, n)
  | _ => none

def sval : D → Option (List UInt8)
  | .str l => some l
  | _ => none

def bval : D → Option Bool
  | .bool b => some b
  | _ => none

/-- the value out of cells: a struct or array, or one cell -/
def ofCells (ag : Bool) (n : Nat) (cs : List D) : Option D :=
  if n ≤ cs.length then
    (if ag then some (.agg (cs.take n))
    else if n = 1 then (match cs with
      | d :: _ => if d.one then some d else none
      | [] => none)
    else none)
  else none

/-- a bound of a slice expression -/
def bound (g : G) (dflt : Nat) (most : Nat) : Option PX → Option Nat
  | none => some dflt
  | some x => match x.ev g with
    | .int _ n => if 0 ≤ n ∧ n ≤ most then some n.toNat else none
    | _ => none

/-- what is handed on, and the slot that loses its right to be written -/
def lend (g : G) (x : PX) : Option D :=
  if (x.ev g).plain.isPure then some (x.ev g).plain else none

/-- what is captured: a pointer to a box, from now on not written -/
def capt (g : G) (x : PX) : Option D :=
  match x.ev g with
  | .box _ cs => some (.pt cs)
  | .pt cs => some (.pt cs)
  | _ => none

def D.dull : D → D
  | .own _ e n cs => .own false e n cs
  | .box _ cs => .box false cs
  | d => d

/-- slots whose memory is lent, marked as no longer to be written -/
def dulls (g : G) (xs : List PX) : List (Nat × D) := xs.filterMap fun x => x.slot.map fun s => (s, (g s).dull)

def optAll {α : Type} : List (Option α) → Option (List α)
  | [] => some []
  | some x :: r => (optAll r).map (x :: ·)
  | none :: _ => none

/-- slots from here on are no temporaries: each stands for what a box of the frame holds -/
def GB : Nat := 1000000

/-- a box of one cell that may be written -/
def isBox1 : D → Bool
  | .gbox _ => true
  | .box true [_] => true
  | _ => false

/-- the ghost slot of a field -/
def GF (t i : Nat) : Nat := GB * (i + 2) + t
/-- a box that may be written, with ghost fields or without -/
def boxCs : D → Option (List D)
  | .mbx cs => some cs
  | .box true cs => some cs
  | _ => none
/-- what a field reads as -/
def unM (g : G) : D → D
  | .al s => (g s).plain
  | d => d
def isOwn : D → Bool
  | .own .. => true
  | _ => false
/-- the fields that are ghost slots are among fs, and own -/
def fldOk (g : G) (fs : List Nat) : D → Bool
  | .al s => fs.contains s && isOwn (g s)
  | _ => true
def lgMr (dst t i : Nat) : Option D → Option (List (Nat × D))
  | some (.al s) => if s = GF t i then some [(dst, .al (GF t i))] else none
  | some d => if d.isPure = true ∧ d.one = true then some [(dst, d)] else none
  | none => none

/-- a nil slice that may be appended to is the call's own -/
def ownN (e : TypeId) : D → D
  | .sl 0 [.un] => .own true e 0 []
  | d => d
def isAlO (G : Nat) : Option D → Bool
  | some (.al s) => s == G
  | _ => false
def K.run (dst : Nat) (g : G) : K → Option (List (Nat × D))
  | .bad => none
  | .mv x => match x with
    | .k d => if d.isPure then some [(dst, d)] else none
    | .v t => match g t with
      | .own .. | .box .. => some [(dst, .al t)]
      | .al _ | .rf .. | .un | .gbox _ | .mbx _ | .mag .. => none
      | d => some [(dst, d)]
    | .o t s => match g t with
      | .al s' => if s' = s then some [(dst, .al s)] else none
      | .own .. | .box .. | .rf .. | .un | .gbox _ | .mbx _ | .mag .. => none
      | d => some [(dst, d)]
  | .cp x => if (x.ev g).isPure = true then some [(dst, x.ev g)] else none
  | .nil e => some [(dst, .own true e 0 [])]
  | .tk t => match g t with
    | .al _ | .rf .. | .un | .gbox _ | .mbx _ | .mag .. => none
    | d => some [(dst, d), (t, .un)]
  | .sh x => match x.slot, x.ev g with
    | some s, .own _ e n cs => some [(dst, .sl n cs), (s, .own false e n cs)]
    | some s, .sl n cs => some [(dst, .sl n cs), (s, g s)]
    | _, _ => none
  | .ari op k x y => match x.ev g, y.ev g with
    | .int kx a, .int ky b => if kx = k ∧ ky = k then (arith op k a b).map fun n => [(dst, .int k n)] else none
    | _, _ => none
  | .ci op x y => match x.ev g, y.ev g with
    | .int kx a, .int ky b => if kx = ky then (cmpI op a b).map fun n => [(dst, .bool n)] else none
    | _, _ => none
  | .cat x y => match x.ev g, y.ev g with
    | .str a, .str b => if a.length + b.length ≤ maxLen then some [(dst, .str (a ++ b))] else none
    | _, _ => none
  | .sc op x y => match x.ev g, y.ev g with
    | .str a, .str b => (cmpS op a b).map fun n => [(dst, .bool n)]
    | _, _ => none
  | .eqb neg x y => match x.ev g, y.ev g with
    | .bool a, .bool b => some [(dst, .bool (if neg then !(a == b) else a == b))]
    | _, _ => none
  | .eq neg sig x y => match x.ev g, y.ev g with
    | .agg a, .agg b => (eqSig sig a b).map fun b => [(dst, .bool (if neg then !b else b))]
    | _, _ => none
  | .en neg x => match x.ev g with
    | .err b => some [(dst, .bool (if neg then !b else b))]
    | _ => none
  | .not x => match x.ev g with
    | .bool b => some [(dst, .bool !b)]
    | _ => none
  | .ng k x => match x.ev g with
    | .int kx n => if kx = k then some [(dst, .int k (k.wrap (0 - n)))] else none
    | _ => none
  | .cvI k x => match x.ev g with
    | .int _ n => some [(dst, .int k (k.wrap n))]
    | _ => none
  | .cvS x => match x.ev g with
    | .str l => some [(dst, .str l)]
    | _ => none
  | .cvSB x => match x.ev g with
    | .str l => some [(dst, .sl l.length (l.map fun b => .int .u8 b.toNat))]
    | _ => none
  | .cvBS x => match (x.ev g).slv with
    | some (n, cs) => if n = cs.length then (bytesOf cs).map fun l => [(dst, .str l)] else none
    | none => none
  | .lenS x => match x.ev g with
    | .str l => some [(dst, .int .i64 l.length)]
    | _ => none
  | .len x => match x.ev g with
    | .sl n _ => some [(dst, .int .i64 n)]
    | .own _ _ n _ => some [(dst, .int .i64 n)]
    | _ => none
  | .ix x i => match x.ev g, i.ev g with
    | .str l, .int _ n => if 0 ≤ n ∧ n < l.length then some [(dst, .int .u8 (l.getD n.toNat 0).toNat)] else none
    | _, _ => none
  | .ia sz x i => match x.ev g, i.ev g with
    | .sl n cs, .int _ k => if 0 ≤ k ∧ k < n ∧ k.toNat * sz + sz ≤ cs.length then some [(dst, .pt ((cs.drop (k.toNat * sz)).take sz))] else none
    | .own _ _ n cs, .int _ k => match x.slot with
      | some s => if 0 ≤ k ∧ k < n ∧ k.toNat * sz + sz ≤ cs.length then some [(dst, .rf s (k.toNat * sz))] else none
      | none => none
    | _, _ => none
  | .iaA n sz x i => match x.at g, i.ev g with
    | some (.imm cs), .int _ k => if 0 ≤ k ∧ k < n ∧ k.toNat * sz + sz ≤ cs.length then some [(dst, .pt ((cs.drop (k.toNat * sz)).take sz))] else none
    | some (.own s off), .int _ k => if 0 ≤ k ∧ k < n then some [(dst, .rf s (off + k.toNat * sz))] else none
    | _, _ => none
  | .fa off x => match x.at g with
    | some (.imm cs) => some [(dst, .pt (cs.drop off))]
    | some (.own s o) => some [(dst, .rf s (o + off))]
    | none => none
  | .ld ag n x => match x.at g with
    | some p => (ofCells ag n (p.cells g)).map fun d => [(dst, d)]
    | none => none
  | .st n x v => match x.at g with
    | some (.own s off) =>
      if (g s).wr = true ∧ (v.ev g).cells.length = n ∧ off + n ≤ (g s).mem.length ∧ (v.ev g).cells.all D.one = true ∧ (v.ev g).isPure = true then
        some [(s, (g s).setMem (splice (g s).mem off (v.ev g).cells))] else none
    | _ => none
  | .alloc z => some [(dst, .box true z)]
  | .bx n x => if (x.ev g).cells.length = n ∧ (x.ev g).cells.all D.one = true ∧ (x.ev g).isPure = true then some [(dst, .box true (x.ev g).cells)] else none
  | .bld z ps => (fillD z (ps.map fun (o, n, x) => (o, n, x.ev g))).map fun cs => [(dst, .agg cs)]
  | .bldS e z n ps => match fillD (List.replicate n z).flatten (ps.map fun (o, m, x) => (o, m, x.ev g)) with
    | some cs => some [(dst, .own true e n cs)]
    | none => none
  | .mkS e z bytes l c => match l.ev g, c.ev g with
    | .int .i64 a, .int .i64 b => if 0 ≤ a ∧ a ≤ b ∧ bytes * b ≤ 140737488355328 ∧ b ≤ maxLen then some [(dst, .own true e a.toNat (List.replicate a.toNat z).flatten)] else none
    | _, _ => none
  | .app e sz bytes x y => match x.slot, ownN e (x.ev g), (y.ev g).slv with
    | some s, .own w e' n cs, some (m, ms) =>
      if e' = e ∧ ms.length = m * sz ∧ (n + m) * bytes ≤ 140737488355328 ∧ n + m ≤ maxLen then
        (match x with
        | .o t _ => some [(dst, .own w e (n + m) (cs ++ ms)), (s, .un), (t, .un)]
        | _ => some [(dst, .own w e (n + m) (cs ++ ms)), (s, .un)])
      else none
    | _, _, _ => none
  | .slc sz x lo hi => match x.slot, (x.ev g).slv with
    | some s, some (n, cs) => match bound g n n hi with
      | some h => match bound g 0 h lo with
        | some l => if n * sz = cs.length then some [(dst, .sl (h - l) (cut sz l h cs)), (s, (g s).dull)] else none
        | none => none
      | none => none
    | _, _ => none
  | .slS x lo hi => match x.ev g with
    | .str l => match bound g l.length l.length hi with
      | some h => match bound g 0 h lo with
        | some o => some [(dst, .str ((l.take h).drop o))]
        | none => none
      | none => none
    | _ => none
  | .mkf f caps => (optAll (caps.map (capt g))).map fun ds => (dst, .clo f ds) :: dulls g caps
  | .ext t i => match g t with
    | .tup vs => (vs[i]?).bind fun d => if d.isPure then some [(dst, d)] else none
    | _ => none
  | .pick c a b => match c.ev g with
    | .bool t => let d := if t then a.ev g else b.ev g; if d.isPure then some [(dst, d)] else none
    | _ => none
  | .fld ag off n x => match x.ev g with
    | .agg cs => (ofCells ag n (cs.drop off)).map fun d => [(dst, d)]
    | _ => none
  | .ixA ag n m x i => match x.ev g, i.ev g with
    | .agg cs, .int _ k => if 0 ≤ k ∧ k < n then (ofCells ag m (cs.drop (k.toNat * m))).map fun d => [(dst, d)] else none
    | _, _ => none
  | .mm mx xs => match optAll (xs.map fun x => kval (x.ev g)) with
    | some ((k, n) :: r) => if r.all (fun p => p.1 = k) then some [(dst, .int k (r.foldl (fun m p => if mx then (if p.2 > m then p.2 else m) else (if p.2 < m then p.2 else m)) n))] else none
    | _ => none
  | .call .. | .callV .. => none
  | .bldA z ps => (fillD z (ps.map fun (o, n, x) => (o, n, (x.ev g).plain))).map fun cs => (dst, .agg cs) :: dulls g (ps.map fun p => p.2.2)
  | .bldL e z n ps => (fillD (List.replicate n z).flatten (ps.map fun (o, m, x) => (o, m, (x.ev g).plain))).map fun cs => (dst, .own true e n cs) :: dulls g (ps.map fun p => p.2.2)
  | .slA n sz x => match x.slot, lend g x with
    | some s, some (.pt cs) => if n * sz ≤ cs.length ∧ n ≤ 1000 then some [(dst, .sl n (cs.take (n * sz))), (s, (g s).dull)] else none
    | _, _ => none
  | .s2a n sz x => match x.ev g with
    | .sl m cs => if n ≤ m ∧ 0 < n ∧ n * sz ≤ cs.length then some [(dst, .pt (cs.take (n * sz)))] else none
    | _ => none
  | .faM t i => match boxCs (g t) with
    | some cs => if i < cs.length ∧ t < GB then some [(dst, .rf t i)] else none
    | none => none
  | .lgM p t i => match g p, boxCs (g t) with
    | .rf s j, some cs => if s = t ∧ j = i ∧ t < GB ∧ p < GB then lgMr dst t i cs[i]? else none
    | _, _ => none
  | .sgM p t i v ks => match g p, boxCs (g t), v.slot, v.ev g with
    | .rf s j, some cs, some _, .own wr e m xs => if s = t ∧ j = i ∧ t < GB ∧ p < GB ∧ i < cs.length ∧ (p :: (v.reads ++ ks)).all (fun z => z != t && z != GF t i) = true then
        some ((t, .mbx (cs.set i (.al (GF t i)))) :: (GF t i, .own wr e m xs) :: (p :: (v.reads ++ ks)).map (fun z => (z, .un))) else none
    | _, _, _, _ => none
  | .ldM n t fs => match boxCs (g t) with
    | some cs => if t < GB ∧ cs.length = n ∧ fs.all (fun s => s != t) = true ∧ cs.all (fldOk g fs) = true then some ((dst, .agg (cs.map (unM g))) :: fs.map (fun s => (s, (g s).dull))) else none
    | none => none
  | .bldQ a b => match g a, g b with
    | .own w1 e1 n1 c1, .own w2 e2 n2 c2 => if a ≠ b ∧ a < GB ∧ b < GB then
        some [(dst, .mag [.al (GF dst 0), .al (GF dst 1)]), (GF dst 0, .own w1 e1 n1 c1), (GF dst 1, .own w2 e2 n2 c2), (a, .un), (b, .un)] else none
    | _, _ => none
  | .stQ t z => match g t, g z, g (GF z 0), g (GF z 1) with
    | .box true [_, _], .mag [.al G0, .al G1], .own w1 e1 n1 c1, .own w2 e2 n2 c2 => if t < GB ∧ z < GB ∧ t ≠ z ∧ G0 = GF z 0 ∧ G1 = GF z 1 then
        some [(t, .mbx [.al (GF t 0), .al (GF t 1)]), (GF t 0, .own w1 e1 n1 c1), (GF t 1, .own w2 e2 n2 c2), (z, .un), (GF z 0, .un), (GF z 1, .un)] else none
    | _, _, _, _ => none
  | .lgD p t i => match g p, boxCs (g t), g (GF t i) with
    | .rf s j, some cs, .own _ e m xs => if s = t ∧ j = i ∧ t < GB ∧ p < GB ∧ isAlO (GF t i) cs[i]? = true then some [(dst, .sl m xs), (GF t i, .own false e m xs)] else none
    | _, _, _ => none
  | .alG e => some [(dst, .gbox (GB + dst)), (GB + dst, .own true e 0 [])]
  | .lg t => match g t with
    | .gbox G => if G = GB + t then some [(dst, .al (GB + t))] else none
    | .box _ [d] => if d.isPure = true ∧ d.one = true then some [(dst, d)] else none
    | _ => none
  | .sgO t v ks => if isBox1 (g t) = true ∧ t < GB ∧ (v.reads ++ ks).all (fun z => z != t && z != GB + t) = true then (match v.slot, v.ev g with
    | some _, .own wr e n cs => some ((t, .gbox (GB + t)) :: (GB + t, .own wr e n cs) :: (v.reads ++ ks).map (fun z => (z, .un)))
    | _, _ => none) else none
  | .sgP t v ks => if isBox1 (g t) = true ∧ t < GB ∧ (v.ev g).isPure = true ∧ (v.ev g).one = true ∧ ks.all (fun z => z != t && z != GB + t) = true then
      some ((t, .box true [v.ev g]) :: (GB + t, .un) :: ks.map (fun z => (z, .un))) else none

/-- the function that a call calls, with its data -/
def K.callee (g : G) : K → Option (FuncId × List D)
  | .call f args => (optAll (args.map (lend g))).map fun ds => (f, ds)
  | .callV t args => match g t with
    | .clo f caps => (optAll (args.map (lend g))).map fun ds => (f, ds ++ caps)
    | _ => none
  | _ => none

/-- what stands behind a call -/
def K.after (dst : Nat) (g : G) (r : D) : K → List (Nat × D)
  | .call _ args | .callV _ args => (dst, r) :: (if r.flat then [] else dulls g args)
  | _ => []

structure PO where
  dst : Option Nat
  k : K
  guard : Option (Nat × Bool) := none
  deriving Inhabited

def upd (g : G) (t : Nat) (d : D) : G := fun t' => if t' = t then d else g t'

def upds (g : G) : List (Nat × D) → G
  | [] => g
  | (t, d) :: r => upds (upd g t d) r

end Go.Pi
