/-
  THE READING, MADE FOR SIMPLIFYING: a stronger condition 'wF' whose unfolding is one lemma a step. Own work.
-/
import Derived.Test.YtijkmdpdedagdaaGreatDoorPh
import Derived.IntWalk
set_option linter.unusedVariables false
set_option linter.unusedSimpArgs false
namespace Go.Pi
open Go Go.RowKit

abbrev CT := FuncId → List D → D → Prop
abbrev EP := Env → Prop

noncomputable def dB (p : Prop) : Bool := @decide p (Classical.propDecidable p)
theorem dB_iff {p : Prop} : dB p = true ↔ p := by unfold dB; exact @decide_eq_true_iff p (Classical.propDecidable p)
theorem dB_not {p : Prop} : dB p = false ↔ ¬ p := by unfold dB; exact @decide_eq_false_iff_not p (Classical.propDecidable p)
theorem dB_dec (p : Prop) [Decidable p] : decide p = dB p := by
  unfold dB; by_cases h : p <;> simp [h]
theorem dB_t {p : Prop} (h : p) : dB p = true := dB_iff.2 h
theorem dB_f {p : Prop} (h : ¬p) : dB p = false := dB_not.2 h
theorem dB_True : dB True = true := dB_t trivial
theorem dB_False : dB False = false := dB_f id
theorem dB_neg (p : Prop) : (!dB p) = dB (¬p) := by
  by_cases h : p
  · rw [dB_t h, dB_f (by simpa using h)]; rfl
  · rw [dB_f h, dB_t h]; rfl
theorem dB_beq_true (p : Prop) : (dB p == true) = dB p := by cases dB p <;> rfl
theorem dB_beq_false (p : Prop) : (dB p == false) = dB (¬ p) := by rw [← dB_neg]; cases dB p <;> rfl

/-- in the range of the kind -/
def inR (k : IntKind) (n : Int) : Prop := k.wrap n = n
theorem inR_i64 {n : Int} : inR .i64 n ↔ -9223372036854775808 ≤ n ∧ n ≤ 9223372036854775807 := by unfold inR; rw [IntKind.wrap_i64]; omega
theorem inR_u64 {n : Int} : inR .u64 n ↔ 0 ≤ n ∧ n ≤ 18446744073709551615 := by unfold inR; rw [IntKind.wrap_u64]; omega
theorem inR_i32 {n : Int} : inR .i32 n ↔ -2147483648 ≤ n ∧ n ≤ 2147483647 := by unfold inR; rw [IntKind.wrap_i32]; omega
theorem inR_u32 {n : Int} : inR .u32 n ↔ 0 ≤ n ∧ n ≤ 4294967295 := by unfold inR; rw [IntKind.wrap_u32]; omega
theorem inR_u8 {n : Int} : inR .u8 n ↔ 0 ≤ n ∧ n ≤ 255 := by unfold inR; rw [IntKind.wrap_u8]; omega

def putF (d : D) (t : Nat) (N : EP) (E : Env) : Prop := d.isPure = true ∧ N (st1 E t d)

def mvF (s : Nat) (d : D) (t : Nat) (N : EP) (E : Env) : Prop := match d with
  | .own .. | .box .. => N (st1 E t (.al s))
  | .al _ | .rf .. | .un | .gbox _ | .mbx _ | .mag .. => False
  | d => N (st1 E t d)
def moF (s : Nat) (d : D) (t : Nat) (N : EP) (E : Env) : Prop := match d with
  | .al s' => s' = s ∧ N (st1 E t (.al s))
  | .own .. | .box .. | .rf .. | .un | .gbox _ | .mbx _ | .mag .. => False
  | d => N (st1 E t d)
def tkF (s : Nat) (d : D) (t : Nat) (N : EP) (E : Env) : Prop := match d with
  | .al _ | .rf .. | .un | .gbox _ | .mbx _ | .mag .. => False
  | d => N (st1 (st1 E t d) s .un)
def shF (s : Nat) (d g : D) (t : Nat) (N : EP) (E : Env) : Prop := match d with
  | .own _ e n cs => N (st1 (st1 E t (.sl n cs)) s (.own false e n cs))
  | .sl n cs => N (st1 (st1 E t (.sl n cs)) s g)
  | _ => False
def ariF (op : BinOp) (k : IntKind) (x y : D) (t : Nat) (N : EP) (E : Env) : Prop := match x, y with
  | .int kx a, .int ky b => kx = k ∧ ky = k ∧ (match op with
    | .add => inR k (a + b) ∧ N (st1 E t (.int k (a + b)))
    | .sub => inR k (a - b) ∧ N (st1 E t (.int k (a - b)))
    | .mul => inR k (a * b) ∧ N (st1 E t (.int k (a * b)))
    | .quo => b ≠ 0 ∧ inR k (a.tdiv b) ∧ N (st1 E t (.int k (a.tdiv b)))
    | .rem => b ≠ 0 ∧ N (st1 E t (.int k (a.tmod b)))
    | .and => N (st1 E t (.int k (bitAnd k a b)))
    | _ => False)
  | _, _ => False
def ciF (op : BinOp) (x y : D) (t : Nat) (N : EP) (E : Env) : Prop := match x, y with
  | .int kx a, .int ky b => kx = ky ∧ (match op with
    | .eql => N (st1 E t (.bool (dB (a = b))))
    | .neq => N (st1 E t (.bool (dB (¬ a = b))))
    | .lss => N (st1 E t (.bool (dB (a < b))))
    | .leq => N (st1 E t (.bool (dB (a ≤ b))))
    | .gtr => N (st1 E t (.bool (dB (b < a))))
    | .geq => N (st1 E t (.bool (dB (b ≤ a))))
    | _ => False)
  | _, _ => False
def catF (x y : D) (t : Nat) (N : EP) (E : Env) : Prop := match x, y with
  | .str a, .str b => a.length + b.length ≤ maxLen ∧ N (st1 E t (.str (a ++ b)))
  | _, _ => False
def scF (op : BinOp) (x y : D) (t : Nat) (N : EP) (E : Env) : Prop := match x, y with
  | .str a, .str b => (match op with
    | .eql => N (st1 E t (.bool (dB (a = b))))
    | .neq => N (st1 E t (.bool (dB (¬ a = b))))
    | .lss => N (st1 E t (.bool (Op.bytesLess a b)))
    | .geq => N (st1 E t (.bool (!Op.bytesLess a b)))
    | _ => False)
  | _, _ => False
def ebF (neg : Bool) (x y : D) (t : Nat) (N : EP) (E : Env) : Prop := match x, y with
  | .bool a, .bool b => N (st1 E t (.bool (if neg = true then !(a == b) else a == b)))
  | _, _ => False
def eqOk : List Nat → List D → List D → Prop
  | [], [], [] => True
  | 0 :: s, .bool _ :: x, .bool _ :: y => eqOk s x y
  | 1 :: s, .int k _ :: x, .int k' _ :: y => k = k' ∧ eqOk s x y
  | 2 :: s, .str _ :: x, .str _ :: y => eqOk s x y
  | _, _, _ => False
def eqPr : List Nat → List D → List D → Prop
  | 0 :: s, .bool a :: x, .bool b :: y => a = b ∧ eqPr s x y
  | 1 :: s, .int _ a :: x, .int _ b :: y => a = b ∧ eqPr s x y
  | 2 :: s, .str a :: x, .str b :: y => a = b ∧ eqPr s x y
  | _, _, _ => True
theorem eqSig_dB : ∀ (s : List Nat) (x y : List D), eqOk s x y → eqSig s x y = some (dB (eqPr s x y))
  | [], [], [], _ => by simp [eqSig, eqPr, dB_True]
  | 0 :: s, .bool a :: x, .bool b :: y, h => by
    simp only [eqOk] at h
    simp only [eqSig, eqPr]
    by_cases e : a = b
    · simp [e, eqSig_dB s x y h]
    · simp [e, dB_False]
  | 1 :: s, .int k a :: x, .int k' b :: y, h => by
    simp only [eqOk] at h
    obtain ⟨rfl, h⟩ := h
    simp only [eqSig, eqPr]
    by_cases e : a = b
    · simp [e, eqSig_dB s x y h]
    · simp [e, dB_False]
  | 2 :: s, .str a :: x, .str b :: y, h => by
    simp only [eqOk] at h
    simp only [eqSig, eqPr]
    by_cases e : a = b
    · simp [e, eqSig_dB s x y h]
    · simp [e, dB_False]
def eqF (neg : Bool) (sig : List Nat) (x y : D) (t : Nat) (N : EP) (E : Env) : Prop := match x, y with
  | .agg a, .agg b => eqOk sig a b ∧ N (st1 E t (.bool (if neg = true then !dB (eqPr sig a b) else dB (eqPr sig a b))))
  | _, _ => False
def enF (neg : Bool) (x : D) (t : Nat) (N : EP) (E : Env) : Prop := match x with
  | .err b => N (st1 E t (.bool (if neg = true then !b else b)))
  | _ => False
def notF (x : D) (t : Nat) (N : EP) (E : Env) : Prop := match x with
  | .bool b => N (st1 E t (.bool !b))
  | _ => False
def ngF (k : IntKind) (x : D) (t : Nat) (N : EP) (E : Env) : Prop := match x with
  | .int kx n => kx = k ∧ inR k (0 - n) ∧ N (st1 E t (.int k (0 - n)))
  | _ => False
def cvF (k : IntKind) (x : D) (t : Nat) (N : EP) (E : Env) : Prop := match x with
  | .int _ n => inR k n ∧ N (st1 E t (.int k n))
  | _ => False
def byD (l : List UInt8) : List D := l.map fun b => .int .u8 b.toNat
def csF (x : D) (t : Nat) (N : EP) (E : Env) : Prop := match x with
  | .str l => N (st1 E t (.str l))
  | _ => False
def csbF (x : D) (t : Nat) (N : EP) (E : Env) : Prop := match x with
  | .str l => N (st1 E t (.sl l.length (byD l)))
  | _ => False
def cbsF (x : D) (t : Nat) (N : EP) (E : Env) : Prop := match x with
  | .sl n cs | .own _ _ n cs => n = cs.length ∧ ∃ l, byD l = cs ∧ N (st1 E t (.str l))
  | _ => False
def lenF (x : D) (t : Nat) (N : EP) (E : Env) : Prop := match x with
  | .sl n _ => N (st1 E t (.int .i64 n))
  | .own _ _ n _ => N (st1 E t (.int .i64 n))
  | _ => False
def lenSF (x : D) (t : Nat) (N : EP) (E : Env) : Prop := match x with
  | .str l => N (st1 E t (.int .i64 l.length))
  | _ => False
def ixF (x i : D) (t : Nat) (N : EP) (E : Env) : Prop := match x, i with
  | .str l, .int _ n => (0 ≤ n ∧ n < l.length) ∧ N (st1 E t (.int .u8 (l.getD n.toNat 0).toNat))
  | _, _ => False
def iaF (sz : Nat) (s : Option Nat) (x i : D) (t : Nat) (N : EP) (E : Env) : Prop := match x, i with
  | .sl n cs, .int _ k => (0 ≤ k ∧ k < n ∧ k.toNat * sz + sz ≤ cs.length) ∧ N (st1 E t (.pt ((cs.drop (k.toNat * sz)).take sz)))
  | .own _ _ n cs, .int _ k => (match s with
    | some s => (0 ≤ k ∧ k < n ∧ k.toNat * sz + sz ≤ cs.length) ∧ N (st1 E t (.rf s (k.toNat * sz)))
    | none => False)
  | _, _ => False
def iaAF (n sz : Nat) (x : Option Where) (i : D) (t : Nat) (N : EP) (E : Env) : Prop := match x, i with
  | some (.imm cs), .int _ k => (0 ≤ k ∧ k < n ∧ k.toNat * sz + sz ≤ cs.length) ∧ N (st1 E t (.pt ((cs.drop (k.toNat * sz)).take sz)))
  | some (.own s off), .int _ k => (0 ≤ k ∧ k < n) ∧ N (st1 E t (.rf s (off + k.toNat * sz)))
  | _, _ => False
def faF (off : Nat) (x : Option Where) (t : Nat) (N : EP) (E : Env) : Prop := match x with
  | some (.imm cs) => N (st1 E t (.pt (cs.drop off)))
  | some (.own s o) => N (st1 E t (.rf s (o + off)))
  | none => False
def ldC (ag : Bool) (n : Nat) (cs : List D) (t : Nat) (N : EP) (E : Env) : Prop := ∃ d, ofCells ag n cs = some d ∧ N (st1 E t d)
def ldF (ag : Bool) (n : Nat) (x : Option Where) (t : Nat) (N : EP) (E : Env) : Prop := match x with
  | some (.imm cs) => ldC ag n cs t N E
  | some (.own s off) => ldC ag n ((lk E s).mem.drop off) t N E
  | none => False
def stG (n : Nat) (s off : Nat) (g v : D) (N : EP) (E : Env) : Prop :=
  g.wr = true ∧ v.cells.length = n ∧ off + n ≤ g.mem.length ∧ v.cells.all D.one = true ∧ v.isPure = true ∧ N (st1 E s (g.setMem (splice g.mem off v.cells)))
def stF (n : Nat) (x : Option Where) (v : D) (N : EP) (E : Env) : Prop := match x with
  | some (.own s off) => stG n s off (lk E s) v N E
  | _ => False
def bxF (n : Nat) (v : D) (t : Nat) (N : EP) (E : Env) : Prop := v.cells.length = n ∧ v.cells.all D.one = true ∧ v.isPure = true ∧ N (st1 E t (.box true v.cells))
def bldF (r : Option (List D)) (t : Nat) (N : EP) (E : Env) : Prop := ∃ cs, r = some cs ∧ N (st1 E t (.agg cs))
def bldSF (e n : Nat) (r : Option (List D)) (t : Nat) (N : EP) (E : Env) : Prop := ∃ cs, r = some cs ∧ N (st1 E t (.own true e n cs))
def bldAF (r : Option (List D)) (dl : List (Nat × D)) (t : Nat) (N : EP) (E : Env) : Prop := ∃ cs, r = some cs ∧ N (sets (st1 E t (.agg cs)) dl)
def bldLF (e n : Nat) (r : Option (List D)) (dl : List (Nat × D)) (t : Nat) (N : EP) (E : Env) : Prop := ∃ cs, r = some cs ∧ N (sets (st1 E t (.own true e n cs)) dl)
def slAF (n sz s : Nat) (x g : D) (t : Nat) (N : EP) (E : Env) : Prop := match x with
  | .box _ cs | .pt cs => n * sz ≤ cs.length ∧ n ≤ 1000 ∧ N (st1 (st1 E t (.sl n (cs.take (n * sz)))) s g.dull)
  | _ => False
def s2aF (n sz : Nat) (x : D) (t : Nat) (N : EP) (E : Env) : Prop := match x with
  | .sl m cs => (n ≤ m ∧ 0 < n ∧ n * sz ≤ cs.length) ∧ N (st1 E t (.pt (cs.take (n * sz))))
  | _ => False
def mkSF (e : Nat) (z : List D) (bytes : Nat) (l c : D) (t : Nat) (N : EP) (E : Env) : Prop := match l, c with
  | .int .i64 a, .int .i64 b => (0 ≤ a ∧ a ≤ b ∧ bytes * b ≤ 140737488355328 ∧ b ≤ maxLen) ∧ N (st1 E t (.own true e a.toNat (List.replicate a.toNat z).flatten))
  | _, _ => False
def appF (e sz bytes : Nat) (s : Nat) (u : Option Nat) (x y : D) (t : Nat) (N : EP) (E : Env) : Prop := match ownN e x with
  | .own w e' n cs => ∃ m ms, y.slv = some (m, ms) ∧ e' = e ∧ ms.length = m * sz ∧ (n + m) * bytes ≤ 140737488355328 ∧ n + m ≤ maxLen ∧
    N (match u with | some u => st1 (st1 (st1 E t (.own w e (n + m) (cs ++ ms))) s .un) u .un | none => st1 (st1 E t (.own w e (n + m) (cs ++ ms))) s .un)
  | _ => False
def boundF (dflt : Nat) : Option D → Option Int
  | none => some dflt
  | some (.int _ n) => some n
  | _ => none
def slcF (sz s : Nat) (x : D) (lo hi : Option D) (g : D) (t : Nat) (N : EP) (E : Env) : Prop := ∃ n cs h l, x.slv = some (n, cs) ∧ boundF n hi = some h ∧ boundF 0 lo = some l ∧
  0 ≤ l ∧ l ≤ h ∧ h ≤ n ∧ n * sz = cs.length ∧ N (st1 (st1 E t (.sl (h.toNat - l.toNat) (cut sz l.toNat h.toNat cs))) s g.dull)
def slSF (x : D) (lo hi : Option D) (t : Nat) (N : EP) (E : Env) : Prop := match x with
  | .str c => ∃ h l, boundF c.length hi = some h ∧ boundF 0 lo = some l ∧ 0 ≤ l ∧ l ≤ h ∧ h ≤ c.length ∧ N (st1 E t (.str ((c.take h.toNat).drop l.toNat)))
  | _ => False
def mkfF (f : FuncId) (ds : Option (List D)) (dl : List (Nat × D)) (t : Nat) (N : EP) (E : Env) : Prop := ∃ l, ds = some l ∧ N (sets (st1 E t (.clo f l)) dl)
def extF (i : Nat) (x : D) (t : Nat) (N : EP) (E : Env) : Prop := match x with
  | .tup vs => ∃ d, vs[i]? = some d ∧ putF d t N E
  | _ => False
def pickF (c a b : D) (t : Nat) (N : EP) (E : Env) : Prop := match c with
  | .bool c => (c = true → putF a t N E) ∧ (c = false → putF b t N E)
  | _ => False
def fldF (ag : Bool) (off n : Nat) (x : D) (t : Nat) (N : EP) (E : Env) : Prop := match x with
  | .agg cs => ldC ag n (cs.drop off) t N E
  | _ => False
def ixAF (ag : Bool) (n m : Nat) (x i : D) (t : Nat) (N : EP) (E : Env) : Prop := match x, i with
  | .agg cs, .int _ k => (0 ≤ k ∧ k < n) ∧ ldC ag m (cs.drop (k.toNat * m)) t N E
  | _, _ => False
def mmF2 (mx : Bool) (x y : D) (t : Nat) (N : EP) (E : Env) : Prop := match x, y with
  | .int k a, .int k' b => k' = k ∧ N (st1 E t (.int k (if mx = true then (if b > a then b else a) else (if b < a then b else a))))
  | _, _ => False
/-- a call: what is handed on, the slots that are from now on not written -/
def callF (C : CT) (f : FuncId) (ods : Option (List D)) (dl : List (Nat × D)) (t : Nat) (N : EP) (E : Env) : Prop :=
  ∃ ds, ods = some ds ∧ ∃ r, C f ds r ∧ N (sets (st1 E t r) (if r.flat = true then [] else dl))
def callVF (C : CT) (v : D) (ods : Option (List D)) (dl : List (Nat × D)) (t : Nat) (N : EP) (E : Env) : Prop := match v with
  | .clo f caps => callF C f (ods.map (· ++ caps)) dl t N E
  | _ => False

def lgF (s : Nat) (d : D) (t : Nat) (N : EP) (E : Env) : Prop := match d with
  | .gbox G => G = GB + s ∧ N (st1 E t (.al (GB + s)))
  | .box _ [d] => d.isPure = true ∧ d.one = true ∧ N (st1 E t d)
  | _ => False
def zap (l : List Nat) (E : Env) : Env := sets E (l.map fun z => (z, .un))
def sgOF (t : Nat) (ks : List Nat) (d x : D) (N : EP) (E : Env) : Prop := isBox1 d = true ∧ t < GB ∧ ks.all (fun z => z != t && z != GB + t) = true ∧ (match x with
  | .own wr e n cs => N (zap ks (st1 (st1 E t (.gbox (GB + t))) (GB + t) (.own wr e n cs)))
  | _ => False)
def sgPF (t : Nat) (ks : List Nat) (d x : D) (N : EP) (E : Env) : Prop := isBox1 d = true ∧ t < GB ∧ x.isPure = true ∧ x.one = true ∧ ks.all (fun z => z != t && z != GB + t) = true ∧ N (zap ks (st1 (st1 E t (.box true [x])) (GB + t) .un))

def faMF (s i : Nat) (d : D) (t : Nat) (N : EP) (E : Env) : Prop := match boxCs d with
  | some cs => (i < cs.length ∧ s < GB) ∧ N (st1 E t (.rf s i))
  | none => False
def lgMC (s i : Nat) (t : Nat) (N : EP) (E : Env) : Option D → Prop
  | some (.al s') => s' = GF s i ∧ N (st1 E t (.al (GF s i)))
  | some d => (d.isPure = true ∧ d.one = true) ∧ N (st1 E t d)
  | none => False
def lgMF (p s i : Nat) (dp d : D) (t : Nat) (N : EP) (E : Env) : Prop := match dp, boxCs d with
  | .rf s' j, some cs => (s' = s ∧ j = i ∧ s < GB ∧ p < GB) ∧ lgMC s i t N E cs[i]?
  | _, _ => False
def sgMF (p s i : Nat) (ks : List Nat) (dp d x : D) (N : EP) (E : Env) : Prop := match dp, boxCs d, x with
  | .rf s' j, some cs, .own wr e n xs => (s' = s ∧ j = i ∧ s < GB ∧ p < GB ∧ i < cs.length ∧ (p :: ks).all (fun z => z != s && z != GF s i) = true) ∧
      N (zap (p :: ks) (st1 (st1 E s (.mbx (cs.set i (.al (GF s i))))) (GF s i) (.own wr e n xs)))
  | _, _, _ => False
def bldQF (a b : Nat) (x y : D) (t : Nat) (N : EP) (E : Env) : Prop := match x, y with
  | .own w1 e1 n1 c1, .own w2 e2 n2 c2 => (a ≠ b ∧ a < GB ∧ b < GB) ∧ N (st1 (st1 (st1 (st1 (st1 E t (.mag [.al (GF t 0), .al (GF t 1)])) (GF t 0) (.own w1 e1 n1 c1)) (GF t 1) (.own w2 e2 n2 c2)) a .un) b .un)
  | _, _ => False
def stQF (s z : Nat) (ds dz x y : D) (N : EP) (E : Env) : Prop := match ds, dz, x, y with
  | .box true [_, _], .mag [.al G0, .al G1], .own w1 e1 n1 c1, .own w2 e2 n2 c2 => (s < GB ∧ z < GB ∧ s ≠ z ∧ G0 = GF z 0 ∧ G1 = GF z 1) ∧
      N (st1 (st1 (st1 (st1 (st1 (st1 E s (.mbx [.al (GF s 0), .al (GF s 1)])) (GF s 0) (.own w1 e1 n1 c1)) (GF s 1) (.own w2 e2 n2 c2)) z .un) (GF z 0) .un) (GF z 1) .un)
  | _, _, _, _ => False
def lgDF (p s i : Nat) (dp d x : D) (t : Nat) (N : EP) (E : Env) : Prop := match dp, boxCs d, x with
  | .rf s' j, some cs, .own _ e m xs => (s' = s ∧ j = i ∧ s < GB ∧ p < GB ∧ isAlO (GF s i) cs[i]? = true) ∧ N (st1 (st1 E t (.sl m xs)) (GF s i) (.own false e m xs))
  | _, _, _ => False
def ldMF (n s : Nat) (fs : List Nat) (d : D) (t : Nat) (N : EP) (E : Env) : Prop := match boxCs d with
  | some cs => (s < GB ∧ cs.length = n ∧ fs.all (fun z => z != s) = true ∧ cs.all (fldOk (lk E) fs) = true) ∧ N (sets (st1 E t (.agg (cs.map (unM (lk E))))) (fs.map fun z => (z, (lk E z).dull)))
  | none => False

def stepF (C : CT) (k : K) (t : Nat) (N : EP) (E : Env) : Prop := match k with
  | .bad => False
  | .mv (.k d) => putF d t N E
  | .mv (.v s) => mvF s (lk E s) t N E
  | .mv (.o u s) => moF s (lk E u) t N E
  | .cp x => putF (x.ev (lk E)) t N E
  | .nil e => N (st1 E t (.own true e 0 []))
  | .tk s => tkF s (lk E s) t N E
  | .sh (.v s) => shF s (lk E s) (lk E s) t N E
  | .sh (.o u s) => shF s (PX.ev (lk E) (.o u s)) (lk E s) t N E
  | .sh (.k _) => False
  | .ari op kd x y => ariF op kd (x.ev (lk E)) (y.ev (lk E)) t N E
  | .ci op x y => ciF op (x.ev (lk E)) (y.ev (lk E)) t N E
  | .cat x y => catF (x.ev (lk E)) (y.ev (lk E)) t N E
  | .sc op x y => scF op (x.ev (lk E)) (y.ev (lk E)) t N E
  | .eqb neg x y => ebF neg (x.ev (lk E)) (y.ev (lk E)) t N E
  | .eq neg sig x y => eqF neg sig (x.ev (lk E)) (y.ev (lk E)) t N E
  | .en neg x => enF neg (x.ev (lk E)) t N E
  | .not x => notF (x.ev (lk E)) t N E
  | .ng kd x => ngF kd (x.ev (lk E)) t N E
  | .cvI kd x => cvF kd (x.ev (lk E)) t N E
  | .cvS x => csF (x.ev (lk E)) t N E
  | .cvSB x => csbF (x.ev (lk E)) t N E
  | .cvBS x => cbsF (x.ev (lk E)) t N E
  | .len x => lenF (x.ev (lk E)) t N E
  | .lenS x => lenSF (x.ev (lk E)) t N E
  | .ix x i => ixF (x.ev (lk E)) (i.ev (lk E)) t N E
  | .ia sz x i => iaF sz x.slot (x.ev (lk E)) (i.ev (lk E)) t N E
  | .iaA n sz x i => iaAF n sz (x.at (lk E)) (i.ev (lk E)) t N E
  | .fa off x => faF off (x.at (lk E)) t N E
  | .ld ag n x => ldF ag n (x.at (lk E)) t N E
  | .st n x v => stF n (x.at (lk E)) (v.ev (lk E)) N E
  | .alloc z => N (st1 E t (.box true z))
  | .bx n x => bxF n (x.ev (lk E)) t N E
  | .bld z ps => bldF (fillD z (ps.map fun (o, n, x) => (o, n, x.ev (lk E)))) t N E
  | .bldS e z n ps => bldSF e n (fillD (List.replicate n z).flatten (ps.map fun (o, m, x) => (o, m, x.ev (lk E)))) t N E
  | .mkS e z bytes l c => mkSF e z bytes (l.ev (lk E)) (c.ev (lk E)) t N E
  | .app e sz bytes (.v s) y => appF e sz bytes s none (lk E s) (y.ev (lk E)) t N E
  | .app e sz bytes (.o u s) y => appF e sz bytes s (some u) (PX.ev (lk E) (.o u s)) (y.ev (lk E)) t N E
  | .app _ _ _ (.k _) _ => False
  | .slc sz (.v s) lo hi => slcF sz s (lk E s) (lo.map (PX.ev (lk E))) (hi.map (PX.ev (lk E))) (lk E s) t N E
  | .slc sz (.o u s) lo hi => slcF sz s (PX.ev (lk E) (.o u s)) (lo.map (PX.ev (lk E))) (hi.map (PX.ev (lk E))) (lk E s) t N E
  | .slc _ (.k _) _ _ => False
  | .slS x lo hi => slSF (x.ev (lk E)) (lo.map (PX.ev (lk E))) (hi.map (PX.ev (lk E))) t N E
  | .mkf f caps => mkfF f (optAll (caps.map (capt (lk E)))) (dulls (lk E) caps) t N E
  | .ext s i => extF i (lk E s) t N E
  | .pick c a b => pickF (c.ev (lk E)) (a.ev (lk E)) (b.ev (lk E)) t N E
  | .fld ag off n x => fldF ag off n (x.ev (lk E)) t N E
  | .ixA ag n m x i => ixAF ag n m (x.ev (lk E)) (i.ev (lk E)) t N E
  | .mm mx [x, y] => mmF2 mx (x.ev (lk E)) (y.ev (lk E)) t N E
  | .mm _ _ => False
  | .call f args => callF C f (optAll (args.map (lend (lk E)))) (dulls (lk E) args) t N E
  | .callV s args => callVF C (lk E s) (optAll (args.map (lend (lk E)))) (dulls (lk E) args) t N E
  | .slA n sz (.v s) => slAF n sz s (lk E s) (lk E s) t N E
  | .slA _ _ (.k _) | .slA _ _ (.o _ _) => False
  | .s2a n sz x => s2aF n sz (x.ev (lk E)) t N E
  | .bldA z ps => bldAF (fillD z (ps.map fun (o, n, x) => (o, n, (x.ev (lk E)).plain))) (dulls (lk E) (ps.map fun p => p.2.2)) t N E
  | .bldL e z n ps => bldLF e n (fillD (List.replicate n z).flatten (ps.map fun (o, m, x) => (o, m, (x.ev (lk E)).plain))) (dulls (lk E) (ps.map fun p => p.2.2)) t N E
  | .alG e => N (st1 (st1 E t (.gbox (GB + t))) (GB + t) (.own true e 0 []))
  | .lg s => lgF s (lk E s) t N E
  | .sgO z (.v s) ks => sgOF z (s :: ks) (lk E z) (lk E s) N E
  | .sgO z (.o u s) ks => sgOF z (u :: s :: ks) (lk E z) (PX.ev (lk E) (.o u s)) N E
  | .sgO _ (.k _) _ => False
  | .sgP z v ks => sgPF z ks (lk E z) (v.ev (lk E)) N E
  | .faM s i => faMF s i (lk E s) t N E
  | .lgM p s i => lgMF p s i (lk E p) (lk E s) t N E
  | .sgM p s i (.v u) ks => sgMF p s i (u :: ks) (lk E p) (lk E s) (lk E u) N E
  | .sgM p s i (.o u z) ks => sgMF p s i (u :: z :: ks) (lk E p) (lk E s) (PX.ev (lk E) (.o u z)) N E
  | .sgM _ _ _ (.k _) _ => False
  | .ldM n s fs => ldMF n s fs (lk E s) t N E
  | .bldQ a b => bldQF a b (lk E a) (lk E b) t N E
  | .stQ s z => stQF s z (lk E s) (lk E z) (lk E (GF z 0)) (lk E (GF z 1)) N E
  | .lgD p s i => lgDF p s i (lk E p) (lk E s) (lk E (GF s i)) t N E

theorem bytesOf_byD : ∀ l, bytesOf (byD l) = some l
  | [] => rfl
  | b :: l => by
    have := bytesOf_byD l
    unfold byD at this
    have hb : (b.toNat : Int) < 256 := by have := b.toNat_lt; omega
    simp only [byD, List.map_cons, bytesOf]
    rw [if_pos ⟨by omega, hb⟩]
    rw [this]
    show some _ = some _
    rw [show UInt8.ofNat (Int.toNat (b.toNat : Int)) = b by simp]

theorem boundF_b {g : G} {dflt most : Nat} {x : Option PX} {n : Int} (h : boundF dflt (x.map (PX.ev g)) = some n) (h0 : 0 ≤ n) (hm : n ≤ most) : bound g dflt most x = some n.toNat := by
  cases x with
  | none => simp [boundF] at h; subst h; simp [bound]
  | some x =>
    simp only [Option.map_some] at h
    simp only [bound]
    cases hq : x.ev g <;> rw [hq] at h <;> simp only [boundF] at h <;> cases h
    simp [h0, hm]

theorem stepF_sound {C : CT} {k : K} {d : Option Nat} {t : Nat} {N : EP} {E : Env} (ht : d.getD 0 = t) (h : stepF C k t N E) : doE C ⟨d, k, none⟩ N E := by
  have hd : (PO.d ⟨d, k, none⟩) = t := ht
  unfold doE
  simp only [hd]
  cases k
  case bad => exact h.elim
  case mv x =>
    cases x with
    | k d => obtain ⟨h1, h2⟩ := h; simp only [K.run, h1, if_true, sets]; exact h2
    | v s =>
      simp only [stepF] at h
      simp only [K.run]
      cases hq : lk E s <;> rw [hq] at h <;> simp only [mvF] at h <;> first | exact h.elim | exact h
    | o u s =>
      simp only [stepF] at h
      simp only [K.run]
      cases hq : lk E u <;> rw [hq] at h <;> simp only [moF] at h <;> first
        | exact h.elim
        | exact h
        | (simp only [h.1, if_true, sets]; exact h.2)
  case cp x => obtain ⟨h1, h2⟩ := h; simp only [K.run, h1, if_true, sets]; exact h2
  case nil e => exact h
  case tk s =>
    simp only [stepF] at h
    simp only [K.run]
    cases hq : lk E s <;> rw [hq] at h <;> simp only [tkF] at h <;> first | exact h.elim | exact h
  case sh x =>
    cases x with
    | k d => exact h.elim
    | v s =>
      simp only [stepF] at h
      simp only [K.run, PX.slot, PX.ev]
      cases hq : lk E s <;> rw [hq] at h <;> simp only [shF] at h <;> first | exact h.elim | exact h | (dsimp only [sets]; rw [hq]; exact h)
    | o u s =>
      simp only [stepF] at h
      simp only [K.run, PX.slot]
      cases hq : PX.ev (lk E) (.o u s) <;> rw [hq] at h <;> simp only [shF] at h <;> first | exact h.elim | exact h
  case ari op kd x y =>
    simp only [stepF] at h
    simp only [K.run]
    cases hx : x.ev (lk E) <;> rw [hx] at h <;> simp only [ariF] at h <;> try exact h.elim
    cases hy : y.ev (lk E) <;> rw [hy] at h <;> simp only at h <;> try exact h.elim
    obtain ⟨rfl, rfl, h⟩ := h
    simp only [and_self, if_true]
    cases op <;> simp only at h <;> simp only [arith] <;> first
      | exact h.elim
      | (obtain ⟨h1, h2⟩ := h; rw [h1]; exact h2)
      | (obtain ⟨h0, h1, h2⟩ := h; rw [if_neg h0, h1]; exact h2)
      | (obtain ⟨h0, h2⟩ := h; rw [if_neg h0]; exact h2)
      | exact h
  case ci op x y =>
    simp only [stepF] at h
    simp only [K.run]
    cases hx : x.ev (lk E) <;> rw [hx] at h <;> simp only [ciF] at h <;> try exact h.elim
    cases hy : y.ev (lk E) <;> rw [hy] at h <;> simp only at h <;> try exact h.elim
    obtain ⟨rfl, h⟩ := h
    simp only [if_true]
    cases op <;> simp only at h <;> simp only [cmpI, Option.map_some, sets] <;> first
      | exact h.elim
      | (rw [dB_dec]; exact h)
      | (rw [show ∀ a b : Int, (a == b) = dB (a = b) from fun a b => by rw [← dB_dec]; by_cases e : a = b <;> simp [e]]; exact h)
      | (rw [show ∀ a b : Int, (a != b) = dB (¬ a = b) from fun a b => by rw [← dB_dec]; by_cases e : a = b <;> simp [e]]; exact h)
  case cat x y =>
    simp only [stepF] at h
    simp only [K.run]
    cases hx : x.ev (lk E) <;> rw [hx] at h <;> simp only [catF] at h <;> try exact h.elim
    cases hy : y.ev (lk E) <;> rw [hy] at h <;> simp only at h <;> try exact h.elim
    dsimp only; rw [if_pos h.1]; exact h.2
  case sc op x y =>
    simp only [stepF] at h
    simp only [K.run]
    cases hx : x.ev (lk E) <;> rw [hx] at h <;> simp only [scF] at h <;> try exact h.elim
    cases hy : y.ev (lk E) <;> rw [hy] at h <;> simp only at h <;> try exact h.elim
    cases op <;> simp only at h <;> simp only [cmpS, Option.map_some, sets] <;> first
      | exact h.elim
      | exact h
      | (rw [show ∀ a b : List UInt8, (a == b) = dB (a = b) from fun a b => by rw [← dB_dec]; by_cases e : a = b <;> simp [e]]; exact h)
      | (rw [show ∀ a b : List UInt8, (!(a == b)) = dB (¬ a = b) from fun a b => by rw [← dB_dec]; by_cases e : a = b <;> simp [e]]; exact h)
  case eqb neg x y =>
    simp only [stepF] at h
    simp only [K.run]
    cases hx : x.ev (lk E) <;> rw [hx] at h <;> simp only [ebF] at h <;> try exact h.elim
    cases hy : y.ev (lk E) <;> rw [hy] at h <;> simp only at h <;> try exact h.elim
    exact h
  case eq neg sig x y =>
    simp only [stepF] at h
    simp only [K.run]
    cases hx : x.ev (lk E) <;> rw [hx] at h <;> simp only [eqF] at h <;> try exact h.elim
    cases hy : y.ev (lk E) <;> rw [hy] at h <;> simp only at h <;> try exact h.elim
    simp only [eqSig_dB _ _ _ h.1]
    exact h.2
  case en neg x =>
    simp only [stepF] at h
    simp only [K.run]
    cases hx : x.ev (lk E) <;> rw [hx] at h <;> simp only [enF] at h <;> first | exact h.elim | exact h
  case not x =>
    simp only [stepF] at h
    simp only [K.run]
    cases hx : x.ev (lk E) <;> rw [hx] at h <;> simp only [notF] at h <;> first | exact h.elim | exact h
  case ng kd x =>
    simp only [stepF] at h
    simp only [K.run]
    cases hx : x.ev (lk E) <;> rw [hx] at h <;> simp only [ngF] at h <;> try exact h.elim
    obtain ⟨rfl, h1, h2⟩ := h
    simp only [if_true]; rw [h1]; exact h2
  case cvI kd x =>
    simp only [stepF] at h
    simp only [K.run]
    cases hx : x.ev (lk E) <;> rw [hx] at h <;> simp only [cvF] at h <;> try exact h.elim
    obtain ⟨h1, h2⟩ := h
    simp only; rw [h1]; exact h2
  case cvS x =>
    simp only [stepF] at h
    simp only [K.run]
    cases hx : x.ev (lk E) <;> rw [hx] at h <;> simp only [csF] at h <;> first | exact h.elim | exact h
  case cvSB x =>
    simp only [stepF] at h
    simp only [K.run]
    cases hx : x.ev (lk E) <;> rw [hx] at h <;> simp only [csbF] at h <;> first | exact h.elim | exact h
  case cvBS x =>
    simp only [stepF] at h
    simp only [K.run]
    cases hx : x.ev (lk E) <;> rw [hx] at h <;> simp only [cbsF] at h <;> try exact h.elim
    all_goals
      obtain ⟨rfl, l, rfl, h⟩ := h
      simp only [D.slv, if_true, bytesOf_byD]
      exact h
  case len x =>
    simp only [stepF] at h
    simp only [K.run]
    cases hx : x.ev (lk E) <;> rw [hx] at h <;> simp only [lenF] at h <;> first | exact h.elim | exact h
  case lenS x =>
    simp only [stepF] at h
    simp only [K.run]
    cases hx : x.ev (lk E) <;> rw [hx] at h <;> simp only [lenSF] at h <;> first | exact h.elim | exact h
  case ix x i =>
    simp only [stepF] at h
    simp only [K.run]
    cases hx : x.ev (lk E) <;> rw [hx] at h <;> simp only [ixF] at h <;> try exact h.elim
    cases hy : i.ev (lk E) <;> rw [hy] at h <;> simp only at h <;> try exact h.elim
    dsimp only; rw [if_pos h.1]; exact h.2
  case ia sz x i =>
    simp only [stepF] at h
    simp only [K.run]
    cases hx : x.ev (lk E) <;> rw [hx] at h <;> simp only [iaF] at h <;> try exact h.elim
    all_goals
      cases hy : i.ev (lk E) <;> rw [hy] at h <;> simp only at h <;> try exact h.elim
    · dsimp only; rw [if_pos h.1]; exact h.2
    · cases hs : x.slot <;> rw [hs] at h <;> simp only at h <;> try exact h.elim
      simp only
      rw [if_pos h.1]; exact h.2
  case iaA n sz x i =>
    simp only [stepF] at h
    simp only [K.run]
    cases hx : x.at (lk E) with
    | none => rw [hx] at h; exact h.elim
    | some p =>
      rw [hx] at h
      cases p <;> cases hy : i.ev (lk E) <;> rw [hy] at h <;> simp only [iaAF] at h <;> try exact h.elim
      all_goals
        simp only
        rw [if_pos h.1]; exact h.2
  case fa off x =>
    simp only [stepF] at h
    simp only [K.run]
    cases hx : x.at (lk E) with
    | none => rw [hx] at h; exact h.elim
    | some p => rw [hx] at h; cases p <;> exact h
  case ld ag n x =>
    simp only [stepF] at h
    simp only [K.run]
    cases hx : x.at (lk E) with
    | none => rw [hx] at h; exact h.elim
    | some p =>
      rw [hx] at h
      cases p <;> (obtain ⟨d, h1, h2⟩ := h; simp only [Where.cells, h1]; exact h2)
  case st n x v =>
    simp only [stepF] at h
    simp only [K.run]
    cases hx : x.at (lk E) with
    | none => rw [hx] at h; exact h.elim
    | some p =>
      rw [hx] at h
      cases p
      · obtain ⟨h1, h2, h3, h4, h5, h6⟩ := h
        simp only
        rw [if_pos ⟨h1, h2, h3, h4, h5⟩]; exact h6
      · exact h.elim
  case alloc z => exact h
  case bx n x =>
    obtain ⟨h1, h2, h3, h4⟩ := h
    simp only [K.run]
    rw [if_pos ⟨h1, h2, h3⟩]; exact h4
  case bld z ps =>
    obtain ⟨cs, h1, h2⟩ := h
    simp only [K.run, h1]; exact h2
  case bldS e z n ps =>
    obtain ⟨cs, h1, h2⟩ := h
    simp only [K.run, h1]; exact h2
  case mkS e z bytes l c =>
    simp only [stepF] at h
    simp only [K.run]
    unfold mkSF at h
    split at h <;> try exact h.elim
    rename_i hx hy
    simp only [hx, hy]
    rw [if_pos h.1]; exact h.2
  case app e sz bytes x y =>
    cases x with
    | k d => exact h.elim
    | v s =>
      simp only [stepF] at h
      simp only [K.run, PX.slot, show ∀ g : G, PX.ev g (.v s) = g s from fun _ => rfl]
      cases hx : ownN e (lk E s) <;> simp only [appF, hx] at h <;> try exact h.elim
      obtain ⟨m, ms, h1, h2, h3, h4, h5, h6⟩ := h
      simp only [h1]
      rw [if_pos ⟨h2, h3, h4, h5⟩]; exact h6
    | o u s =>
      simp only [stepF] at h
      simp only [K.run, PX.slot]
      cases hx : ownN e (PX.ev (lk E) (.o u s)) <;> simp only [appF, hx] at h <;> try exact h.elim
      obtain ⟨m, ms, h1, h2, h3, h4, h5, h6⟩ := h
      simp only [h1]
      rw [if_pos ⟨h2, h3, h4, h5⟩]; exact h6
  case slc sz x lo hi =>
    cases x with
    | k d => exact h.elim
    | v s =>
      obtain ⟨n, cs, hh, l, h1, h2, h3, h4, h5, h6, h7, h8⟩ := h
      simp only [K.run, PX.slot, PX.ev, h1, boundF_b h2 (by omega) h6, boundF_b (most := hh.toNat) h3 h4 (by omega), h7, if_true]
      exact h8
    | o u s =>
      obtain ⟨n, cs, hh, l, h1, h2, h3, h4, h5, h6, h7, h8⟩ := h
      simp only [K.run, PX.slot, h1, boundF_b h2 (by omega) h6, boundF_b (most := hh.toNat) h3 h4 (by omega), h7, if_true]
      exact h8
  case slS x lo hi =>
    simp only [stepF] at h
    simp only [K.run]
    cases hx : x.ev (lk E) <;> rw [hx] at h <;> simp only [slSF] at h <;> try exact h.elim
    obtain ⟨hh, l, h2, h3, h4, h5, h6, h8⟩ := h
    simp only [boundF_b h2 (by omega) h6, boundF_b (most := hh.toNat) h3 h4 (by omega)]
    exact h8
  case mkf f caps =>
    obtain ⟨l, h1, h2⟩ := h
    simp only [K.run, h1]; exact h2
  case slA n sz x =>
    cases x with
    | k d => exact h.elim
    | o u s => exact h.elim
    | v s =>
      simp only [stepF] at h
      have key : ∃ cs, lend (lk E) (.v s) = some (.pt cs) ∧ n * sz ≤ cs.length ∧ n ≤ 1000 ∧ N (st1 (st1 E t (.sl n (cs.take (n * sz)))) s (lk E s).dull) := by
        unfold slAF at h
        split at h
        · rename_i hq; exact ⟨_, by simp [lend, PX.ev, hq, D.plain, D.isPure], h⟩
        · rename_i hq; exact ⟨_, by simp [lend, PX.ev, hq, D.plain, D.isPure], h⟩
        · exact h.elim
      obtain ⟨cs, h0, h1, h2, h3⟩ := key
      simp only [K.run, PX.slot, h0]
      rw [if_pos ⟨h1, h2⟩]
      exact h3
  case s2a n sz x =>
    simp only [stepF] at h
    simp only [K.run]
    cases hq : x.ev (lk E) <;> rw [hq] at h <;> simp only [s2aF] at h <;> try exact h.elim
    dsimp only; rw [if_pos h.1]; exact h.2
  case bldA z ps =>
    obtain ⟨cs, h1, h2⟩ := h
    simp only [K.run, h1]; exact h2
  case bldL e z n ps =>
    obtain ⟨cs, h1, h2⟩ := h
    simp only [K.run, h1]; exact h2
  case ext s i =>
    simp only [stepF] at h
    simp only [K.run]
    cases hx : lk E s <;> rw [hx] at h <;> simp only [extF] at h <;> try exact h.elim
    obtain ⟨d, h1, h2, h3⟩ := h
    simp only [h1, Option.bind_some, h2, if_true]; exact h3
  case pick c a b =>
    simp only [stepF] at h
    simp only [K.run]
    cases hx : c.ev (lk E) <;> rw [hx] at h <;> simp only [pickF] at h <;> try exact h.elim
    rename_i b
    cases b
    · obtain ⟨h1, h2⟩ := h.2 rfl
      simp only [Bool.false_eq_true, if_false, h1, if_true]; exact h2
    · obtain ⟨h1, h2⟩ := h.1 rfl
      simp only [if_true, h1]; exact h2
  case fld ag off n x =>
    simp only [stepF] at h
    simp only [K.run]
    cases hx : x.ev (lk E) <;> rw [hx] at h <;> simp only [fldF] at h <;> try exact h.elim
    obtain ⟨d, h1, h2⟩ := h
    simp only [h1]; exact h2
  case ixA ag n m x i =>
    simp only [stepF] at h
    simp only [K.run]
    cases hx : x.ev (lk E) <;> rw [hx] at h <;> simp only [ixAF] at h <;> try exact h.elim
    cases hy : i.ev (lk E) <;> rw [hy] at h <;> simp only at h <;> try exact h.elim
    obtain ⟨h0, d, h1, h2⟩ := h
    dsimp only
    rw [if_pos h0]
    simp only [h1]; exact h2
  case mm mx xs =>
    match xs, h with
    | [x, y], h =>
      simp only [stepF] at h
      simp only [K.run, List.map_cons, List.map_nil]
      cases hx : x.ev (lk E) <;> rw [hx] at h <;> simp only [mmF2] at h <;> try exact h.elim
      cases hy : y.ev (lk E) <;> rw [hy] at h <;> simp only at h <;> try exact h.elim
      obtain ⟨rfl, h⟩ := h
      simp only [kval, optAll, Option.map_some, List.all_cons, List.all_nil, decide_true, Bool.and_self, if_true, List.foldl_cons, List.foldl_nil]
      exact h
  case call f args =>
    obtain ⟨ds, h1, r, h2, h3⟩ := h
    simp only [CallP, h1]
    exact ⟨r, h2, h3⟩
  case callV s args =>
    simp only [stepF] at h
    cases hx : lk E s <;> rw [hx] at h <;> simp only [callVF] at h <;> try exact h.elim
    obtain ⟨ds, h1, r, h2, h3⟩ := h
    dsimp only
    rw [hx]
    dsimp only
    rw [h1]
    exact ⟨r, h2, h3⟩
  case alG e => exact h
  case lg s =>
    simp only [stepF] at h
    simp only [K.run]
    cases hq : lk E s <;> rw [hq] at h <;> simp only [lgF] at h <;> try exact h.elim
    · rename_i wr cs
      match cs, h with
      | [d], h =>
        simp only
        rw [if_pos ⟨h.1, h.2.1⟩]
        exact h.2.2
    · obtain ⟨rfl, h⟩ := h
      simp only [if_true]
      exact h
  case sgO z v ks =>
    cases v with
    | k d => exact h.elim
    | v s =>
      obtain ⟨h1, h2, h3, h5⟩ := h
      simp only [K.run]
      rw [if_pos ⟨h1, h2, h3⟩]
      simp only [PX.slot, PX.ev, PX.reads]
      cases hq : lk E s <;> rw [hq] at h5 <;> simp only at h5 <;> try exact h5.elim
      exact h5
    | o u s =>
      obtain ⟨h1, h2, h3, h5⟩ := h
      simp only [K.run]
      rw [if_pos ⟨h1, h2, h3⟩]
      simp only [PX.slot, PX.reads]
      cases hq : PX.ev (lk E) (.o u s) <;> rw [hq] at h5 <;> simp only at h5 <;> try exact h5.elim
      exact h5
  case sgP z v ks =>
    obtain ⟨h1, h2, h3, h4, h5, h6⟩ := h
    simp only [K.run]
    rw [if_pos ⟨h1, h2, h3, h4, h5⟩]
    exact h6
  case faM s i =>
    simp only [stepF, faMF] at h
    simp only [K.run]
    split at h <;> try exact h.elim
    rename_i cs hq
    simp only [hq]
    rw [if_pos h.1]
    exact h.2
  case lgM p s i =>
    simp only [stepF, lgMF] at h
    simp only [K.run]
    split at h <;> try exact h.elim
    rename_i s' j cs hp hq
    simp only [hp, hq]
    rw [if_pos h.1]
    have h2 := h.2
    cases hc : cs[i]? with
    | none => rw [hc] at h2; exact h2.elim
    | some d =>
      rw [hc] at h2
      cases d <;> simp only [lgMC] at h2 <;> simp only [lgMr] <;> first
        | (rw [if_pos h2.1]; exact h2.2)
        | (exact absurd h2.1.1 (by simp [D.isPure]))
  case sgM p s i v ks =>
    cases v with
    | k d => exact h.elim
    | v u =>
      simp only [stepF, sgMF] at h
      simp only [K.run, PX.slot, PX.ev]
      split at h <;> try exact h.elim
      rename_i s' j cs wr e n xs hp hq hx
      simp only [hp, hq, hx]
      have h1 : s' = s ∧ j = i ∧ s < GB ∧ p < GB ∧ i < cs.length ∧ (p :: ((PX.v u).reads ++ ks)).all (fun z => z != s && z != GF s i) = true := h.1
      rw [if_pos h1]
      exact h.2
    | o u z =>
      simp only [stepF, sgMF] at h
      simp only [K.run, PX.slot]
      split at h <;> try exact h.elim
      rename_i s' j cs wr e n xs hp hq hx
      simp only [hp, hq, hx]
      have h1 : s' = s ∧ j = i ∧ s < GB ∧ p < GB ∧ i < cs.length ∧ (p :: ((PX.o u z).reads ++ ks)).all (fun z => z != s && z != GF s i) = true := h.1
      rw [if_pos h1]
      exact h.2
  case ldM n s fs =>
    simp only [stepF, ldMF] at h
    simp only [K.run]
    split at h <;> try exact h.elim
    rename_i cs hq
    simp only [hq]
    rw [if_pos h.1]
    exact h.2
  case bldQ a b =>
    simp only [stepF, bldQF] at h
    simp only [K.run]
    split at h <;> try exact h.elim
    rename_i hx hy
    simp only [hx, hy]
    rw [if_pos h.1]
    exact h.2
  case stQ s z =>
    simp only [stepF, stQF] at h
    simp only [K.run]
    split at h <;> try exact h.elim
    rename_i h1 h2 h3 h4
    simp only [h1, h2, h3, h4]
    rw [if_pos h.1]
    exact h.2
  case lgD p s i =>
    simp only [stepF, lgDF] at h
    simp only [K.run]
    split at h <;> try exact h.elim
    rename_i h1 h2 h3
    simp only [h1, h2, h3]
    rw [if_pos h.1]
    exact h.2

end Go.Pi

/-
  THE READING, MADE FOR SIMPLIFYING: code. Own work.
-/
namespace Go.Pi
open Go Go.RowKit

def grdF (s : Nat) (want : Bool) (t : Nat) (d : D) (A B : EP) (E : Env) : Prop := match d with
  | .bool b => (b = want → A (st1 E s (.bool want))) ∧ ((!b) = want → B (st1 (st1 E s (.bool !want)) t (.tup [])))
  | .tup [] => B (st1 E t (.tup []))
  | _ => False

def wE (C : CT) : List PO → EP → EP
  | [], N, E => N E
  | p :: ps, N, E => match p.guard with
    | none => stepF C p.k p.d (wE C ps N) E
    | some (s, want) => grdF s want p.d (lk E s) (stepF C p.k p.d (wE C ps N)) (wE C ps N) E

def regK (live : List Nat) (Q : Ex → EP) : EP := fun E => Q .nrm (keepE live E)
def seqK (W : (Ex → EP) → EP) (Q : Ex → EP) : Ex → EP
  | .nrm, E => W Q E
  | .exit id, E => Q (.exit id) E
  | .ret, E => Q .ret E
def blkK (id : Nat) (Q : Ex → EP) : Ex → EP
  | .nrm, E => Q .nrm E
  | .exit id', E => if id' = id then Q .nrm E else Q (.exit id') E
  | .ret, E => Q .ret E
def cndF (d : D) (A B : EP) (E : Env) : Prop := match d with
  | .bool b => (b = true → A E) ∧ (b = false → B E)
  | _ => False
def loopK (I : EP) (m : Env → Nat) (E0 : Env) (Q : Ex → EP) : Ex → EP
  | .nrm, E => I E ∧ m E < m E0
  | .exit id, E => Q (.exit id) E
  | .ret, E => Q .ret E
def loopF (W : (Ex → EP) → EP) (Q : Ex → EP) (E : Env) : Prop := ∃ (I : EP) (m : Env → Nat), I E ∧ ∀ E0, I E0 → W (loopK I m E0 Q) E0

/-- a range over slices.Backward: the assignment, the body -/
def bodK (out : List Nat) (J : EP) : Ex → EP
  | .nrm, E => J (keepE out E)
  | _, _ => False
def asgK (out : List Nat) (J : EP) (Wb : (Ex → EP) → EP) : Ex → EP
  | .nrm, E => Wb (bodK out J) E
  | _, _ => False
def rfnF (f : Nat) (ag : Bool) (sz gs k1 k2 : Nat) (out : List Nat) (Wa Wb : (Ex → EP) → EP) (Q : Ex → EP) (d : D) (E : Env) : Prop :=
  backOf f d fun m cs => m * sz = cs.length ∧
      ∃ I : Nat → EP, I 0 (keepE out E) ∧ (∀ k E1, I k E1 → lk E1 gs = d) ∧ (∀ E1, I m E1 → Q .nrm E1) ∧
        ∀ k E1, k < m → I k E1 → ∃ d, ofCells ag sz (cs.drop ((m - 1 - k) * sz)) = some d ∧ d.flat0 = true ∧
          Wa (asgK out (I (k + 1)) Wb) (sets E1 [(k1, .int .i64 ((m - 1 - k : Nat) : Int)), (k2, d)])

def wC (C : CT) : PC → (Ex → EP) → EP
  | .skip, Q, E => Q .nrm E
  | .bad, _, _ => False
  | .seq a b, Q, E => wC C a (seqK (wC C b) Q) E
  | .reg ops live, Q, E => wE C ops (regK live Q) E
  | .cnd c t e, Q, E => cndF (c.ev (lk E)) (wC C t Q) (wC C e Q) E
  | .blk id b, Q, E => wC C b (blkK id Q) E
  | .loop b, Q, E => loopF (wC C b) Q E
  | .exit id, Q, E => Q (.exit id) E
  | .ret, Q, E => Q .ret E
  | .rfn f ag sz gs k1 k2 _ asg body out, Q, E => rfnF f ag sz gs k1 k2 out (wC C asg) (wC C body) Q (lk E gs) E
  | .cus _ T, Q, E => T.f Q E

theorem doE_mono {C : CT} {p : PO} {M M' : EP} {E : Env} (hM : ∀ E, M E → M' E) (h : doE C p M E) : doE C p M' E := by
  unfold doE at h ⊢
  have hcall : ∀ {f ods A B}, (∀ r : D, A r → B r) → CallP C f ods A → CallP C f ods B := by
    intro f ods A B hAB h
    unfold CallP at h ⊢
    split at h
    · obtain ⟨r, h1, h2⟩ := h; exact ⟨r, h1, hAB r h2⟩
    · exact h
  split at h
  · exact hcall (fun r => hM _) h
  · split at h
    · exact hcall (fun r => hM _) h
    · exact h.elim
  · split at h
    · exact hM _ h
    · exact h.elim

theorem st1_id {d : D} : ∀ {E : Env} {s : Nat}, lk E s = d → d ≠ .un → st1 E s d = E
  | [], s, h, hn => by simp [lk] at h; exact absurd h.symm hn
  | (k, e) :: r, s, h, hn => by
    simp only [lk] at h
    simp only [st1]
    split
    · rename_i hk; rw [if_pos hk] at h; subst hk; subst h; rfl
    · rename_i hk; rw [if_neg hk] at h; rw [st1_id h hn]

theorem wE_sound {C : CT} : ∀ {ps : List PO} {N N' : EP} {E : Env}, (∀ E, N E → N' E) → wE C ps N E → wpE C ps N' E
  | [], N, N', E, hN, h => hN _ h
  | p :: ps, N, N', E, hN, h => by
    obtain ⟨d, k, gd⟩ := p
    unfold wE at h
    unfold wpE
    cases gd with
    | none => exact doE_mono (fun E h => wE_sound hN h) (stepF_sound rfl h)
    | some g =>
      obtain ⟨s, want⟩ := g
      simp only at h ⊢
      unfold grdF at h
      split at h
      · rename_i b hb
        rw [hb]
        simp only
        refine ⟨fun e => ?_, fun e => ?_⟩
        · have h1 := h.1 e
          subst e
          rw [st1_id hb (by simp)] at h1
          exact doE_mono (M := wE C ps N) (p := ⟨d, k, none⟩) (fun E h => wE_sound hN h) (stepF_sound rfl h1)
        · have h1 := h.2 e
          subst e
          rw [Bool.not_not, st1_id hb (by simp)] at h1
          exact wE_sound hN h1
      · rename_i hb
        rw [hb]
        exact wE_sound hN h
      · exact h.elim

theorem wC_sound' {C : CT} : ∀ {pc : PC} {Q Q' : Ex → EP} {E : Env}, (∀ ex E, Q ex E → Q' ex E) → wC C pc Q E → wpC C pc Q' E := by
  intro pc
  induction pc with
  | skip => intro Q Q' E hQ h; exact hQ _ _ h
  | bad => intro Q Q' E hQ h; exact h.elim
  | seq a b iha ihb =>
    intro Q Q' E hQ h
    refine iha (Q := seqK (wC C b) Q) ?_ h
    intro ex E h
    cases ex with
    | nrm => exact ihb hQ h
    | exit id => exact hQ _ _ h
    | ret => exact hQ _ _ h
  | reg ops live =>
    intro Q Q' E hQ h
    exact wE_sound (N := regK live Q) (fun E h => hQ _ _ h) h
  | cnd c t e iht ihe =>
    intro Q Q' E hQ h
    simp only [wC] at h
    simp only [wpC]
    unfold cndF at h
    split at h
    · rename_i b hb
      rw [hb]
      exact ⟨fun e => iht hQ (h.1 e), fun e => ihe hQ (h.2 e)⟩
    · exact h.elim
  | blk id b ih =>
    intro Q Q' E hQ h
    refine ih (Q := blkK id Q) ?_ h
    intro ex E h
    cases ex with
    | nrm => exact hQ _ _ h
    | exit id' =>
      simp only [blkK] at h ⊢
      split at h
      · rename_i e; simp only [e, if_true]; exact hQ _ _ h
      · rename_i e; simp only [e, if_false]; exact hQ _ _ h
    | ret => exact hQ _ _ h
  | loop b ih =>
    intro Q Q' E hQ h
    obtain ⟨I, m, h1, h2⟩ := h
    refine ⟨I, m, h1, fun E0 h0 => ih (Q := loopK I m E0 Q) ?_ (h2 E0 h0)⟩
    intro ex E h
    cases ex with
    | nrm => exact h
    | exit id => exact hQ _ _ h
    | ret => exact hQ _ _ h
  | exit id => intro Q Q' E hQ h; exact hQ _ _ h
  | ret => intro Q Q' E hQ h; exact hQ _ _ h
  | rfn f ag sz gs k1 k2 rs asg body out iha ihb =>
    intro Q Q' E hQ h
    simp only [wC, rfnF] at h
    simp only [wpC]
    unfold backOf at h ⊢
    split at h
    · rename_i f' m cs r hd
      obtain ⟨h1, h2, I, h3, h4, h5, h6⟩ := h
      rw [hd] at h4 ⊢
      refine ⟨h1, h2, I, h3, h4, fun E1 hE => hQ _ _ (h5 E1 hE), fun k E1 hk hE => ?_⟩
      obtain ⟨d, h7, h8, h9⟩ := h6 k E1 hk hE
      refine ⟨d, h7, h8, iha ?_ h9⟩
      intro ex E2 hx
      cases ex with
      | nrm =>
        refine ihb ?_ hx
        intro ex E3 hx
        cases ex with
        | nrm => exact hx
        | exit id => exact hx.elim
        | ret => exact hx.elim
      | exit id => exact hx.elim
      | ret => exact hx.elim
    · exact h.elim
  | cus ws T => intro Q Q' E hQ h; exact T.mono (fun _ _ h => hQ _ _ h) h

theorem wC_sound {C : CT} {pc : PC} {Q : Ex → EP} {E : Env} (h : wC C pc Q E) : wpC C pc Q E := wC_sound' (fun _ _ h => h) h

/-- a loop by its invariant and measure -/
theorem loopF_of {W : (Ex → EP) → EP} {Q : Ex → EP} {E : Env} (I : EP) (m : Env → Nat) (h0 : I E) (h : ∀ E0, I E0 → W (loopK I m E0 Q) E0) : loopF W Q E := ⟨I, m, h0, h⟩

theorem callF_of {C : CT} {f : FuncId} {ds : List D} {dl : List (Nat × D)} {t : Nat} {N : EP} {E : Env} {r : D} (h : C f ds r) (hN : N (sets (st1 E t r) (if r.flat = true then [] else dl))) : callF C f (some ds) dl t N E :=
  ⟨ds, rfl, r, h, hN⟩

/-! evaluation lemmas -/
section ev
variable {t s u : Nat} {N A B : EP} {E : Env} {d : D} {k kx ky : IntKind} {a b : Int} {n m : Nat} {cs : List D} {l l' : List UInt8} {p : Prop} {C : CT} {Q : Ex → EP} {W : (Ex → EP) → EP} {id id' : Nat} {ps : List PO} {r : Env}

theorem wE_nil : wE C [] N E = N E := rfl
theorem wE_none {k : K} : wE C (⟨some t, k, none⟩ :: ps) N E = stepF C k t (wE C ps N) E := rfl
theorem wE_st {k : K} : wE C (⟨none, k, none⟩ :: ps) N E = stepF C k 0 (wE C ps N) E := rfl
theorem wE_some {k : K} {w : Bool} : wE C (⟨some t, k, some (s, w)⟩ :: ps) N E = grdF s w t (lk E s) (stepF C k t (wE C ps N)) (wE C ps N) E := rfl
theorem wC_skip : wC C .skip Q E = Q .nrm E := rfl
theorem wC_bad : wC C .bad Q E = False := rfl
theorem wC_seq {a b : PC} : wC C (.seq a b) Q E = wC C a (seqK (wC C b) Q) E := rfl
theorem wC_reg {ops : List PO} {live : List Nat} : wC C (.reg ops live) Q E = wE C ops (regK live Q) E := rfl
theorem wC_cnd {c : PX} {a b : PC} : wC C (.cnd c a b) Q E = cndF (c.ev (lk E)) (wC C a Q) (wC C b Q) E := rfl
theorem wC_blk {b : PC} : wC C (.blk id b) Q E = wC C b (blkK id Q) E := rfl
theorem wC_loop {b : PC} : wC C (.loop b) Q E = loopF (wC C b) Q E := rfl
theorem wC_exit : wC C (.exit id) Q E = Q (.exit id) E := rfl
theorem wC_ret : wC C .ret Q E = Q .ret E := rfl
theorem wC_rfn {f : Nat} {ag : Bool} {sz gs k1 k2 : Nat} {rs out : List Nat} {asg body : PC} : wC C (.rfn f ag sz gs k1 k2 rs asg body out) Q E = rfnF f ag sz gs k1 k2 out (wC C asg) (wC C body) Q (lk E gs) E := rfl
theorem wC_cus {ws : List Nat} {T : PT} : wC C (.cus ws T) Q E = T.f Q E := rfl
theorem asgK_nrm {out : List Nat} {J : EP} : asgK out J W .nrm E = W (bodK out J) E := rfl
theorem bodK_nrm {out : List Nat} {J : EP} : bodK out J .nrm E = J (keepE out E) := rfl
theorem regK_eq {live : List Nat} : regK live Q E = Q .nrm (keepE live E) := rfl
theorem seqK_nrm : seqK W Q .nrm E = W Q E := rfl
theorem seqK_exit : seqK W Q (.exit id) E = Q (.exit id) E := rfl
theorem seqK_ret : seqK W Q .ret E = Q .ret E := rfl
theorem blkK_nrm : blkK id Q .nrm E = Q .nrm E := rfl
theorem blkK_exit : blkK id Q (.exit id') E = if id' = id then Q .nrm E else Q (.exit id') E := rfl
theorem blkK_ret : blkK id Q .ret E = Q .ret E := rfl
theorem loopK_nrm {I : EP} {m : Env → Nat} {E0 : Env} : loopK I m E0 Q .nrm E = (I E ∧ m E < m E0) := rfl
theorem loopK_exit {I : EP} {m : Env → Nat} {E0 : Env} : loopK I m E0 Q (.exit id) E = Q (.exit id) E := rfl
theorem loopK_ret {I : EP} {m : Env → Nat} {E0 : Env} : loopK I m E0 Q .ret E = Q .ret E := rfl
theorem cndF_t : cndF (.bool true) A B E = A E := by simp [cndF]
theorem cndF_f : cndF (.bool false) A B E = B E := by simp [cndF]
theorem cndF_p : cndF (.bool (dB p)) A B E = ((p → A E) ∧ (¬p → B E)) := by simp only [cndF, dB_iff, dB_not]
theorem grdF_t {w : Bool} : grdF s w t (.bool true) A B E = if w = true then A (st1 E s (.bool true)) else B (st1 (st1 E s (.bool true)) t (.tup [])) := by cases w <;> simp [grdF]
theorem grdF_f {w : Bool} : grdF s w t (.bool false) A B E = if w = true then B (st1 (st1 E s (.bool false)) t (.tup [])) else A (st1 E s (.bool false)) := by cases w <;> simp [grdF]
theorem grdF_s {w : Bool} : grdF s w t (.tup []) A B E = B (st1 E t (.tup [])) := rfl
theorem grdF_pt : grdF s true t (.bool (dB p)) A B E = ((p → A (st1 E s (.bool true))) ∧ (¬p → B (st1 (st1 E s (.bool false)) t (.tup [])))) := by
  simp only [grdF, dB_iff, Bool.not_eq_true', dB_not, Bool.not_true]
theorem grdF_pf : grdF s false t (.bool (dB p)) A B E = ((¬p → A (st1 E s (.bool false))) ∧ (p → B (st1 (st1 E s (.bool true)) t (.tup [])))) := by
  simp only [grdF, dB_not, Bool.not_eq_false', dB_iff, Bool.not_false]

theorem ev_v : PX.ev (lk E) (.v t) = lk E t := rfl
theorem ev_k : PX.ev (lk E) (.k d) = d := rfl
def oev (s : Nat) (d e : D) : D := match d with
  | .al s' => if s' = s then e else .un
  | .own .. | .box .. | .gbox _ | .mbx _ | .mag .. => .un
  | d => d
theorem ev_o : PX.ev (lk E) (.o t s) = oev s (lk E t) (lk E s) := by simp only [PX.ev, oev]; cases lk E t <;> rfl
theorem oev_al {e : D} {s' : Nat} : oev s (.al s') e = if s' = s then e else .un := rfl
theorem oev_int {e : D} : oev s (.int k a) e = .int k a := rfl
theorem oev_sl {e : D} : oev s (.sl n cs) e = .sl n cs := rfl
theorem oev_str {e : D} : oev s (.str l) e = .str l := rfl
theorem oev_agg {e : D} : oev s (.agg cs) e = .agg cs := rfl
theorem oev_pt {e : D} : oev s (.pt cs) e = .pt cs := rfl
theorem oev_bool {e : D} {b : Bool} : oev s (.bool b) e = .bool b := rfl

theorem lk_cons {x : Nat} : lk ((x, d) :: r) t = if t = x then d else lk r t := rfl
theorem lk_nil : lk [] t = .un := rfl
theorem st1_cons {x : Nat} {e : D} : st1 ((x, e) :: r) t d = if t = x then (x, d) :: r else (x, e) :: st1 r t d := rfl
theorem st1_nil : st1 [] t d = [(t, d)] := rfl
theorem keepE_cons {live : List Nat} : keepE (t :: live) E = (t, (lk E t).clean) :: keepE live E := rfl
theorem keepE_nil : keepE [] E = [] := rfl

theorem putF_int : putF (.int k a) t N E = N (st1 E t (.int k a)) := by simp [putF, D.isPure]
theorem putF_bool {b : Bool} : putF (.bool b) t N E = N (st1 E t (.bool b)) := by simp [putF, D.isPure]
theorem putF_str : putF (.str l) t N E = N (st1 E t (.str l)) := by simp [putF, D.isPure]
theorem putF_sl : putF (.sl n cs) t N E = N (st1 E t (.sl n cs)) := by simp [putF, D.isPure]
theorem putF_agg : putF (.agg cs) t N E = N (st1 E t (.agg cs)) := by simp [putF, D.isPure]
theorem putF_tup : putF (.tup cs) t N E = N (st1 E t (.tup cs)) := by simp [putF, D.isPure]
theorem putF_pt : putF (.pt cs) t N E = N (st1 E t (.pt cs)) := by simp [putF, D.isPure]
theorem putF_clo {f : FuncId} : putF (.clo f cs) t N E = N (st1 E t (.clo f cs)) := by simp [putF, D.isPure]
theorem putF_err {b : Bool} : putF (.err b) t N E = N (st1 E t (.err b)) := by simp [putF, D.isPure]

theorem atV {E : Env} : PX.at (lk E) (.v t) = (match lk E t with | .box _ _ => some (.own t 0) | .pt cs => some (.imm cs) | _ => none) := rfl
theorem atO {E : Env} : PX.at (lk E) (.o t s) = (match lk E t with
    | .rf s' off => if s' = s then some (.own s off) else none
    | .al s' => if s' = s then (match lk E s with | .box _ _ => some (.own s 0) | _ => none) else none
    | .pt cs => some (.imm cs)
    | _ => none) := rfl

theorem lend_eq {x : PX} : lend (lk E) x = if (x.ev (lk E)).plain.isPure = true then some (x.ev (lk E)).plain else none := by simp [lend]
theorem dulls_nil : dulls (lk E) [] = [] := rfl
theorem dulls_v {xs : List PX} : dulls (lk E) (.v t :: xs) = (t, (lk E t).dull) :: dulls (lk E) xs := rfl
theorem dulls_k {xs : List PX} : dulls (lk E) (.k d :: xs) = dulls (lk E) xs := rfl
theorem dulls_o {xs : List PX} : dulls (lk E) (.o t s :: xs) = (s, (lk E s).dull) :: dulls (lk E) xs := rfl
theorem pickF_t {a b : D} : pickF (.bool true) a b t N E = putF a t N E := by simp [pickF]
theorem pickF_f {a b : D} : pickF (.bool false) a b t N E = putF b t N E := by simp [pickF]
theorem pickF_p {a b : D} : pickF (.bool (dB p)) a b t N E = ((p → putF a t N E) ∧ (¬p → putF b t N E)) := by simp only [pickF, dB_iff, dB_not]

theorem retQ_nrm {rs : List RV} : retQ rs d .nrm E = (resD E rs = some d) := by simp [retQ]
theorem retQ_ret {rs : List RV} : retQ rs d .ret E = (resD E rs = some d) := by simp [retQ]
def resT (d : D) : Option D := match d with
  | .own wr e m cs => some (.own wr e m cs)
  | d => if d.isPure then some d else none
theorem resD_t : resD E [.t s] = resT (lk E s) := by
  simp only [resD, resT]
  cases lk E s <;> rfl
theorem resD_two {x y : RV} {rs : List RV} : resD E (x :: y :: rs) = (optAll ((x :: y :: rs).map (rvD E))).map .tup := by
  cases x <;> rfl
end ev

end Go.Pi

/-
  LISTS OF INTEGERS AS CELLS. Own work.
-/
namespace Go.Pi
open Go Go.RowKit

def ints (k : IntKind) (l : List Int) : List D := l.map (.int k)
theorem ints_nil {k : IntKind} : ints k [] = [] := rfl
theorem ints_length {k : IntKind} {l : List Int} : (ints k l).length = l.length := by simp [ints]
theorem ints_app {k : IntKind} {l m : List Int} : ints k l ++ ints k m = ints k (l ++ m) := by simp [ints]
theorem ints_snoc {k : IntKind} {l : List Int} {x : Int} : ints k l ++ [.int k x] = ints k (l ++ [x]) := by simp [ints]
theorem ints_take {k : IntKind} {l : List Int} {n : Nat} : (ints k l).take n = ints k (l.take n) := by simp [ints, List.map_take]
theorem ints_drop {k : IntKind} {l : List Int} {n : Nat} : (ints k l).drop n = ints k (l.drop n) := by simp [ints, List.map_drop]
theorem cut_ints {k : IntKind} {l : List Int} {a b : Nat} : cut 1 a b (ints k l) = ints k ((l.take b).drop a) := by simp [cut, ints, List.map_take, List.map_drop]

theorem ldC_ints {k : IntKind} {l : List Int} {j t : Nat} {N : EP} {E : Env} : ldC false 1 (List.take 1 (List.drop j (ints k l))) t N E = (j < l.length ∧ N (st1 E t (.int k (l.getD j 0)))) := by
  unfold ldC
  by_cases h : j < l.length
  · have e : List.take 1 (List.drop j (ints k l)) = [.int k (l.getD j 0)] := by
      rw [ints_drop, ints_take]
      rw [List.drop_eq_getElem_cons h]
      simp only [List.take_succ_cons, List.take_zero, ints, List.map_cons, List.map_nil, List.getD_eq_getElem?_getD, List.getElem?_eq_getElem h, Option.getD_some]
    rw [e]
    simp [ofCells, D.one, h]
  · have e : List.take 1 (List.drop j (ints k l)) = [] := by
      rw [ints_drop, List.drop_eq_nil_of_le (by omega)]; rfl
    rw [e]
    simp [ofCells, h]

theorem ldC_ints' {k : IntKind} {l : List Int} {j t : Nat} {N : EP} {E : Env} : ldC false 1 (List.drop j (ints k l)) t N E = (j < l.length ∧ N (st1 E t (.int k (l.getD j 0)))) := by
  rw [← ldC_ints]
  unfold ldC
  cases hq : List.drop j (ints k l) with
  | nil => rfl
  | cons d r => simp [ofCells]

theorem stG_ints {k : IntKind} {l : List Int} {j n m s t : Nat} {x : Int} {N : EP} {E : Env} : stG 1 s j (.own true n m (ints k l)) (.int k x) N E = (j < l.length ∧ N (st1 E s (.own true n m (ints k (l.set j x))))) := by
  simp only [stG, D.wr, D.cells, D.mem, D.isPure, D.setMem, List.length_singleton, List.all_cons, List.all_nil, D.one, Bool.and_self, true_and, ints_length]
  by_cases h : j < l.length
  · have e : splice (ints k l) j [.int k x] = ints k (l.set j x) := by
      simp only [splice, List.length_singleton, ints_take, ints_drop]
      rw [List.set_eq_take_append_cons_drop, if_pos h]
      simp [ints]
    rw [e]
    simp [h, show j + 1 ≤ l.length by omega]
  · simp [h, show ¬ j + 1 ≤ l.length by omega]

section ev2
variable {t s : Nat} {N : EP} {E : Env} {d : D} {n m : Nat} {cs ms : List D} {l : List UInt8}
theorem appF_oo {e e' e2 sz bytes : Nat} {u : Option Nat} {w w2 : Bool} : appF e sz bytes s u (.own w e' n cs) (.own w2 e2 m ms) t N E = (e' = e ∧ ms.length = m * sz ∧ (n + m) * bytes ≤ 140737488355328 ∧ n + m ≤ maxLen ∧
    N (match u with | some u => st1 (st1 (st1 E t (.own w e (n + m) (cs ++ ms))) s .un) u .un | none => st1 (st1 E t (.own w e (n + m) (cs ++ ms))) s .un)) := by
  exact propext ⟨fun ⟨m', ms', h, r⟩ => by cases h; exact r, fun h => ⟨m, ms, rfl, h⟩⟩
theorem appF_os {e e' sz bytes : Nat} {u : Option Nat} {w : Bool} : appF e sz bytes s u (.own w e' n cs) (.sl m ms) t N E = (e' = e ∧ ms.length = m * sz ∧ (n + m) * bytes ≤ 140737488355328 ∧ n + m ≤ maxLen ∧
    N (match u with | some u => st1 (st1 (st1 E t (.own w e (n + m) (cs ++ ms))) s .un) u .un | none => st1 (st1 E t (.own w e (n + m) (cs ++ ms))) s .un)) := by
  exact propext ⟨fun ⟨m', ms', h, r⟩ => by cases h; exact r, fun h => ⟨m, ms, rfl, h⟩⟩
def slc2 (sz s n : Nat) (cs : List D) (lo hi : Option Int) (g : D) (t : Nat) (N : EP) (E : Env) : Prop := match lo, hi with
  | some l, some h => 0 ≤ l ∧ l ≤ h ∧ h ≤ n ∧ n * sz = cs.length ∧ N (st1 (st1 E t (.sl (h.toNat - l.toNat) (cut sz l.toNat h.toNat cs))) s g.dull)
  | _, _ => False
theorem slcF_o {sz e : Nat} {w : Bool} {lo hi : Option D} {g : D} : slcF sz s (.own w e n cs) lo hi g t N E = slc2 sz s n cs (boundF 0 lo) (boundF n hi) g t N E := by
  unfold slcF slc2
  cases h1 : boundF 0 lo with
  | none => exact propext ⟨fun ⟨n', cs', h, l, e0, e1, e2, _⟩ => (by cases e2), fun h => h.elim⟩
  | some a => cases h2 : boundF n hi with
    | none => exact propext ⟨fun ⟨n', cs', h, l, e0, e1, e2, _⟩ => (by cases e0; rw [h2] at e1; cases e1), fun h => h.elim⟩
    | some b => exact propext ⟨fun ⟨n', cs', h, l, e0, e1, e2, r⟩ => (by cases e0; rw [h2] at e1; cases e1; cases e2; exact r), fun r => ⟨n, cs, b, a, rfl, h2, rfl, r⟩⟩
theorem slcF_s {sz : Nat} {lo hi : Option D} {g : D} : slcF sz s (.sl n cs) lo hi g t N E = slc2 sz s n cs (boundF 0 lo) (boundF n hi) g t N E := by
  unfold slcF slc2
  cases h1 : boundF 0 lo with
  | none => exact propext ⟨fun ⟨n', cs', h, l, e0, e1, e2, _⟩ => (by cases e2), fun h => h.elim⟩
  | some a => cases h2 : boundF n hi with
    | none => exact propext ⟨fun ⟨n', cs', h, l, e0, e1, e2, _⟩ => (by cases e0; rw [h2] at e1; cases e1), fun h => h.elim⟩
    | some b => exact propext ⟨fun ⟨n', cs', h, l, e0, e1, e2, r⟩ => (by cases e0; rw [h2] at e1; cases e1; cases e2; exact r), fun r => ⟨n, cs, b, a, rfl, h2, rfl, r⟩⟩
theorem slc2_eq {sz : Nat} {a b : Int} {g : D} : slc2 sz s n cs (some a) (some b) g t N E = (0 ≤ a ∧ a ≤ b ∧ b ≤ n ∧ n * sz = cs.length ∧ N (st1 (st1 E t (.sl (b.toNat - a.toNat) (cut sz a.toNat b.toNat cs))) s g.dull)) := rfl
def slS2 (c : List UInt8) (lo hi : Option Int) (t : Nat) (N : EP) (E : Env) : Prop := match lo, hi with
  | some l, some h => 0 ≤ l ∧ l ≤ h ∧ h ≤ c.length ∧ N (st1 E t (.str ((c.take h.toNat).drop l.toNat)))
  | _, _ => False
theorem slSF_eq {lo hi : Option D} : slSF (.str l) lo hi t N E = slS2 l (boundF 0 lo) (boundF l.length hi) t N E := by
  unfold slSF slS2
  cases h1 : boundF 0 lo <;> cases h2 : boundF l.length hi <;> simp [h2]
theorem slS2_eq {a b : Int} : slS2 l (some a) (some b) t N E = (0 ≤ a ∧ a ≤ b ∧ b ≤ l.length ∧ N (st1 E t (.str ((l.take b.toNat).drop a.toNat)))) := rfl
theorem bldF_eq : bldF (some cs) t N E = N (st1 E t (.agg cs)) := by simp [bldF]
theorem bldSF_eq {e : Nat} : bldSF e n (some cs) t N E = N (st1 E t (.own true e n cs)) := by simp [bldSF]
theorem slAF_b {sz : Nat} {w : Bool} {g : D} : slAF n sz s (.box w cs) g t N E = (n * sz ≤ cs.length ∧ n ≤ 1000 ∧ N (st1 (st1 E t (.sl n (cs.take (n * sz)))) s g.dull)) := rfl
theorem slAF_p {sz : Nat} {g : D} : slAF n sz s (.pt cs) g t N E = (n * sz ≤ cs.length ∧ n ≤ 1000 ∧ N (st1 (st1 E t (.sl n (cs.take (n * sz)))) s g.dull)) := rfl
theorem s2aF_s {sz m : Nat} : s2aF n sz (.sl m cs) t N E = ((n ≤ m ∧ 0 < n ∧ n * sz ≤ cs.length) ∧ N (st1 E t (.pt (cs.take (n * sz))))) := rfl
theorem bldAF_eq {dl : List (Nat × D)} : bldAF (some cs) dl t N E = N (sets (st1 E t (.agg cs)) dl) := by simp [bldAF]
theorem bldLF_eq {e : Nat} {dl : List (Nat × D)} : bldLF e n (some cs) dl t N E = N (sets (st1 E t (.own true e n cs)) dl) := by simp [bldLF]
theorem mkfF_eq {f : FuncId} {dl : List (Nat × D)} : mkfF f (some cs) dl t N E = N (sets (st1 E t (.clo f cs)) dl) := by simp [mkfF]
def extO (d : Option D) (t : Nat) (N : EP) (E : Env) : Prop := match d with | some d => putF d t N E | none => False
theorem extF_eq {i : Nat} : extF i (.tup cs) t N E = extO cs[i]? t N E := by
  unfold extF extO
  cases h : cs[i]? with
  | none => exact propext ⟨fun ⟨d, e, _⟩ => by (simp only [h] at e; cases e), fun h => h.elim⟩
  | some d => exact propext ⟨fun ⟨d', e, r⟩ => by (simp only [h] at e; cases e; exact r), fun r => ⟨d, h, r⟩⟩
theorem extO_eq : extO (some d) t N E = putF d t N E := rfl
theorem ldC_agg : ldC true n cs t N E = (n ≤ cs.length ∧ N (st1 E t (.agg (cs.take n)))) := by
  unfold ldC ofCells
  by_cases h : n ≤ cs.length <;> simp [h]
theorem ldC_cons : ldC false 1 (d :: cs) t N E = (d.one = true ∧ N (st1 E t d)) := by
  have e : ofCells false 1 (d :: cs) = if d.one = true then some d else none := by simp [ofCells]
  unfold ldC
  rw [e]
  cases h : d.one
  · exact propext ⟨fun ⟨d', e, _⟩ => (by cases e), fun h => (by cases h.1)⟩
  · exact propext ⟨fun ⟨d', e, r⟩ => (by cases e; exact ⟨rfl, r⟩), fun r => ⟨d, rfl, r.2⟩⟩
theorem cbsF_s : cbsF (.sl n (byD l)) t N E = (n = l.length ∧ N (st1 E t (.str l))) := by
  simp only [cbsF, byD, List.length_map]
  refine propext (and_congr_right fun _ => ⟨fun ⟨l', h1, h2⟩ => ?_, fun h => ⟨l, rfl, h⟩⟩)
  have : bytesOf (byD l') = bytesOf (byD l) := by unfold byD; rw [h1]
  rw [bytesOf_byD, bytesOf_byD] at this
  cases this; exact h2
theorem cbsF_o {w : Bool} {e : Nat} : cbsF (.own w e n (byD l)) t N E = (n = l.length ∧ N (st1 E t (.str l))) := cbsF_s
theorem stG_box {off : Nat} {v : D} : stG n s off (.box true cs) v N E = (v.cells.length = n ∧ off + n ≤ cs.length ∧ v.cells.all D.one = true ∧ v.isPure = true ∧ N (st1 E s (.box true (splice cs off v.cells)))) := by
  simp [stG, D.wr, D.mem, D.setMem]
theorem fillD_nil : fillD cs [] = some cs := rfl
theorem fillD_cons {off : Nat} {ps : List (Nat × Nat × D)} : fillD cs ((off, n, d) :: ps) = if d.cells.length = n ∧ off + n ≤ cs.length ∧ d.cells.all D.one = true ∧ d.isPure = true then fillD (splice cs off d.cells) ps else none := rfl
theorem maxLen_eq : maxLen = 9223372036854775807 := rfl
end ev2
end Go.Pi

/-
  THE READING, RUN: an interpreter for closed data, and the contract that a run gives. Own work.
-/
namespace Go.Pi
open Go Go.RowKit

/-- the readings of functions, and contracts that are known from elsewhere -/
structure Tab where
  fn : Nat → Option (PC × List RV × Nat)
  ext : Nat → List D → Option D

inductive Job where
  | code (pc : PC) (E : Env)
  | ops (ps : List PO) (E : Env)
  | call (f : FuncId) (ds : List D)

inductive Out where
  | ex (e : Ex) (E : Env)
  | env (E : Env)
  | val (d : D)

def runJ (T : Tab) : Nat → Job → Option Out
  | 0, _ => none
  | n + 1, .call f ds => match T.ext f ds with
    | some r => if (aliasOf r).isNone = true then some (.val r) else none
    | none => match T.fn f with
      | some (pc, rs, np) => if ds.length = np ∧ ds.all (fun d => (aliasOf d).isNone) = true then
          (match runJ T n (.code pc (initE 0 ds)) with
          | some (.ex (.exit _) _) => none
          | some (.ex _ E) => (match resD E rs with
            | some r => if (aliasOf r).isNone = true then some (.val r) else none
            | none => none)
          | _ => none) else none
      | none => none
  | _ + 1, .ops [] E => some (.env E)
  | n + 1, .ops (p :: ps) E => match p.guard with
    | some (s, want) => (match lk E s with
      | .bool b => if b = want then runJ T n (.ops (⟨p.dst, p.k, none⟩ :: ps) E) else runJ T n (.ops ps (st1 E p.d (.tup [])))
      | .tup [] => runJ T n (.ops ps (st1 E p.d (.tup [])))
      | _ => none)
    | none => (match p.k with
      | .call f args => (match optAll (args.map (lend (lk E))) with
        | some ds => (match runJ T n (.call f ds) with
          | some (.val r) => runJ T n (.ops ps (sets E ((K.call f args).after p.d (lk E) r)))
          | _ => none)
        | none => none)
      | .callV t args => (match lk E t with
        | .clo f caps => (match (optAll (args.map (lend (lk E)))).map (· ++ caps) with
          | some ds => (match runJ T n (.call f ds) with
            | some (.val r) => runJ T n (.ops ps (sets E ((K.callV t args).after p.d (lk E) r)))
            | _ => none)
          | none => none)
        | _ => none)
      | k => (match k.run p.d (lk E) with
        | some l => runJ T n (.ops ps (sets E l))
        | none => none))
  | n + 1, .code pc E => match pc with
    | .skip => some (.ex .nrm E)
    | .bad => none
    | .seq a b => (match runJ T n (.code a E) with
      | some (.ex .nrm E1) => runJ T n (.code b E1)
      | r => r)
    | .reg ops live => (match runJ T n (.ops ops E) with
      | some (.env E1) => some (.ex .nrm (keepE live E1))
      | _ => none)
    | .cnd c t e => (match c.ev (lk E) with
      | .bool b => if b = true then runJ T n (.code t E) else runJ T n (.code e E)
      | _ => none)
    | .blk id b => (match runJ T n (.code b E) with
      | some (.ex (.exit id') E1) => if id' = id then some (.ex .nrm E1) else some (.ex (.exit id') E1)
      | r => r)
    | .loop b => (match runJ T n (.code b E) with
      | some (.ex .nrm E1) => runJ T n (.code (.loop b) E1)
      | r => r)
    | .exit id => some (.ex (.exit id) E)
    | .ret => some (.ex .ret E)
    | .rfn .. => none
    | .cus .. => none

structure Tab.Ok (P : Program) (L : World → Prop) (T : Tab) : Prop where
  fn : ∀ f pc rs np, T.fn f = some (pc, rs, np) → ∃ fn, P.funcs[f]? = some fn ∧ chkFn P fn np pc rs = true
  ext : ∀ f ds r, T.ext f ds = some r → Con P L f ds r

variable {P : Program} {L : World → Prop} {T : Tab}

end Go.Pi

/-
  MORE LEMMAS OF EVALUATION: boxes that hold slices of the call's own; lists of structs as cells. Own work.
-/
namespace Go.Pi
open Go Go.RowKit

section ev3
variable {t s : Nat} {N : EP} {E : Env} {d : D} {n m : Nat} {cs ms : List D} {l : List UInt8}
theorem GB_eq : GB = 1000000 := rfl
theorem zap_nil : zap [] E = E := rfl
theorem zap_cons {a : Nat} {l : List Nat} : zap (a :: l) E = zap l (st1 E a .un) := rfl
theorem lgF_g {G : Nat} : lgF s (.gbox G) t N E = (G = GB + s ∧ N (st1 E t (.al (GB + s)))) := rfl
theorem lgF_b {w : Bool} : lgF s (.box w [d]) t N E = (d.isPure = true ∧ d.one = true ∧ N (st1 E t d)) := rfl
theorem sgOF_g {G e : Nat} {ks : List Nat} {w : Bool} : sgOF t ks (.gbox G) (.own w e n cs) N E = (t < GB ∧ ks.all (fun z => z != t && z != GB + t) = true ∧ N (zap ks (st1 (st1 E t (.gbox (GB + t))) (GB + t) (.own w e n cs)))) := by simp [sgOF, isBox1]
theorem sgOF_b {e : Nat} {ks : List Nat} {w : Bool} {z : D} : sgOF t ks (.box true [z]) (.own w e n cs) N E = (t < GB ∧ ks.all (fun z => z != t && z != GB + t) = true ∧ N (zap ks (st1 (st1 E t (.gbox (GB + t))) (GB + t) (.own w e n cs)))) := by simp [sgOF, isBox1]
theorem sgPF_g {G : Nat} {ks : List Nat} : sgPF t ks (.gbox G) d N E = (t < GB ∧ d.isPure = true ∧ d.one = true ∧ ks.all (fun z => z != t && z != GB + t) = true ∧ N (zap ks (st1 (st1 E t (.box true [d])) (GB + t) .un))) := by simp [sgPF, isBox1]
theorem sgPF_b {ks : List Nat} {z : D} : sgPF t ks (.box true [z]) d N E = (t < GB ∧ d.isPure = true ∧ d.one = true ∧ ks.all (fun z => z != t && z != GB + t) = true ∧ N (zap ks (st1 (st1 E t (.box true [d])) (GB + t) .un))) := by simp [sgPF, isBox1]
def captD (d : D) : Option D := match d with
  | .box _ cs => some (.pt cs)
  | .pt cs => some (.pt cs)
  | _ => none
theorem capt_eq {x : PX} : capt (lk E) x = captD (x.ev (lk E)) := rfl
theorem captD_box {w : Bool} : captD (.box w cs) = some (.pt cs) := rfl
theorem captD_pt : captD (.pt cs) = some (.pt cs) := rfl
theorem ldC_aggc : ldC true n (d :: cs) t N E = (n ≤ (d :: cs).length ∧ N (st1 E t (.agg ((d :: cs).take n)))) := ldC_agg
end ev3

/-! ### lists of structs of strings, of strings -/
/-- the cells of a list whose elements have the cells f -/
def rows {α : Type} (f : α → List D) (l : List α) : List D := l.flatMap f

theorem rows_cons {α : Type} {f : α → List D} {a : α} {l : List α} : rows f (a :: l) = f a ++ rows f l := rfl
theorem rows_length {α : Type} {f : α → List D} {sz : Nat} (hf : ∀ a, (f a).length = sz) (l : List α) : (rows f l).length = l.length * sz := by
  induction l with
  | nil => simp [rows]
  | cons a l ih => rw [rows_cons, List.length_append, ih, hf, List.length_cons, Nat.succ_mul]; omega
/-- strings as cells -/
def sD (s : List UInt8) : List D := [.str s]
abbrev strs (l : List (List UInt8)) : List D := rows sD l
end Go.Pi
