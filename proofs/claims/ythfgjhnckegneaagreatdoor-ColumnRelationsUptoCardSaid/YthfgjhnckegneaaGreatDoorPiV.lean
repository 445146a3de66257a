/-
  THE READING, MADE FOR SIMPLIFYING: a stronger condition 'wF' whose unfolding is one lemma a step. Own work.
-/
import Derived.Test.YthfgjhnckegneaaGreatDoorPiU
import Derived.IntWalk
namespace Go.Pi
open Go Go.RowKit

abbrev CT := FuncId → List D → D → Prop
abbrev EP := Env → Prop

noncomputable def dB (p : Prop) : Bool := @decide p (Classical.propDecidable p)
theorem dB_iff {p : Prop} : dB p = true ↔ p := by unfold dB; exact @decide_eq_true_iff p (Classical.propDecidable p)
theorem dB_not {p : Prop} : dB p = false ↔ ¬ p := by unfold dB; exact @decide_eq_false_iff_not p (Classical.propDecidable p)
theorem dB_dec (p : Prop) [Decidable p] : decide p = dB p := by
  unfold dB; by_cases h : p <;> simp [h]
theorem dB_t {p : Prop} (h : p) : dB p = true := dB_iff.2 h
theorem dB_f {p : Prop} (h : ¬p) : dB p = false := dB_not.2 h
theorem dB_True : dB True = true := dB_t trivial
theorem dB_False : dB False = false := dB_f id
theorem dB_neg (p : Prop) : (!dB p) = dB (¬p) := by
  by_cases h : p
  · rw [dB_t h, dB_f (by simpa using h)]; rfl
  · rw [dB_f h, dB_t h]; rfl
theorem dB_beq_true (p : Prop) : (dB p == true) = dB p := by cases dB p <;> rfl
theorem dB_beq_false (p : Prop) : (dB p == false) = dB (¬ p) := by rw [← dB_neg]; cases dB p <;> rfl

/-- in the range of the kind -/
def inR (k : IntKind) (n : Int) : Prop := k.wrap n = n
theorem inR_i64 {n : Int} : inR .i64 n ↔ -9223372036854775808 ≤ n ∧ n ≤ 9223372036854775807 := by unfold inR; rw [IntKind.wrap_i64]; omega
theorem inR_u64 {n : Int} : inR .u64 n ↔ 0 ≤ n ∧ n ≤ 18446744073709551615 := by unfold inR; rw [IntKind.wrap_u64]; omega
theorem inR_i32 {n : Int} : inR .i32 n ↔ -2147483648 ≤ n ∧ n ≤ 2147483647 := by unfold inR; rw [IntKind.wrap_i32]; omega
theorem inR_u32 {n : Int} : inR .u32 n ↔ 0 ≤ n ∧ n ≤ 4294967295 := by unfold inR; rw [IntKind.wrap_u32]; omega
theorem inR_u8 {n : Int} : inR .u8 n ↔ 0 ≤ n ∧ n ≤ 255 := by unfold inR; rw [IntKind.wrap_u8]; omega

def putF (d : D) (t : Nat) (N : EP) (E : Env) : Prop := d.isPure = true ∧ N (st1 E t d)

def mvF (s : Nat) (d : D) (t : Nat) (N : EP) (E : Env) : Prop := match d with
  | .own .. | .box .. => N (st1 E t (.al s))
  | .al _ | .rf .. | .un | .gbox _ => False
  | d => N (st1 E t d)
def moF (s : Nat) (d : D) (t : Nat) (N : EP) (E : Env) : Prop := match d with
  | .al s' => s' = s ∧ N (st1 E t (.al s))
  | .own .. | .box .. | .rf .. | .un | .gbox _ => False
  | d => N (st1 E t d)
def tkF (s : Nat) (d : D) (t : Nat) (N : EP) (E : Env) : Prop := match d with
  | .al _ | .rf .. | .un | .gbox _ => False
  | d => N (st1 (st1 E t d) s .un)
def shF (s : Nat) (d g : D) (t : Nat) (N : EP) (E : Env) : Prop := match d with
  | .own _ e n cs => N (st1 (st1 E t (.sl n cs)) s (.own false e n cs))
  | .sl n cs => N (st1 (st1 E t (.sl n cs)) s g)
  | _ => False
def ariF (op : BinOp) (k : IntKind) (x y : D) (t : Nat) (N : EP) (E : Env) : Prop := match x, y with
  | .int kx a, .int ky b => kx = k ∧ ky = k ∧ (match op with
    | .add => inR k (a + b) ∧ N (st1 E t (.int k (a + b)))
    | .sub => inR k (a - b) ∧ N (st1 E t (.int k (a - b)))
    | .mul => inR k (a * b) ∧ N (st1 E t (.int k (a * b)))
    | .quo => b ≠ 0 ∧ inR k (a.tdiv b) ∧ N (st1 E t (.int k (a.tdiv b)))
    | .rem => b ≠ 0 ∧ N (st1 E t (.int k (a.tmod b)))
    | _ => False)
  | _, _ => False
def ciF (op : BinOp) (x y : D) (t : Nat) (N : EP) (E : Env) : Prop := match x, y with
  | .int kx a, .int ky b => kx = ky ∧ (match op with
    | .eql => N (st1 E t (.bool (dB (a = b))))
    | .neq => N (st1 E t (.bool (dB (¬ a = b))))
    | .lss => N (st1 E t (.bool (dB (a < b))))
    | .leq => N (st1 E t (.bool (dB (a ≤ b))))
    | .gtr => N (st1 E t (.bool (dB (b < a))))
    | .geq => N (st1 E t (.bool (dB (b ≤ a))))
    | _ => False)
  | _, _ => False
def catF (x y : D) (t : Nat) (N : EP) (E : Env) : Prop := match x, y with
  | .str a, .str b => a.length + b.length ≤ maxLen ∧ N (st1 E t (.str (a ++ b)))
  | _, _ => False
def scF (op : BinOp) (x y : D) (t : Nat) (N : EP) (E : Env) : Prop := match x, y with
  | .str a, .str b => (match op with
    | .eql => N (st1 E t (.bool (dB (a = b))))
    | .neq => N (st1 E t (.bool (dB (¬ a = b))))
    | .lss => N (st1 E t (.bool (Op.bytesLess a b)))
    | .geq => N (st1 E t (.bool (!Op.bytesLess a b)))
    | _ => False)
  | _, _ => False
def ebF (neg : Bool) (x y : D) (t : Nat) (N : EP) (E : Env) : Prop := match x, y with
  | .bool a, .bool b => N (st1 E t (.bool (if neg = true then !(a == b) else a == b)))
  | _, _ => False
def eqOk : List Nat → List D → List D → Prop
  | [], [], [] => True
  | 0 :: s, .bool _ :: x, .bool _ :: y => eqOk s x y
  | 1 :: s, .int k _ :: x, .int k' _ :: y => k = k' ∧ eqOk s x y
  | 2 :: s, .str _ :: x, .str _ :: y => eqOk s x y
  | _, _, _ => False
def eqPr : List Nat → List D → List D → Prop
  | 0 :: s, .bool a :: x, .bool b :: y => a = b ∧ eqPr s x y
  | 1 :: s, .int _ a :: x, .int _ b :: y => a = b ∧ eqPr s x y
  | 2 :: s, .str a :: x, .str b :: y => a = b ∧ eqPr s x y
  | _, _, _ => True
theorem eqSig_dB : ∀ (s : List Nat) (x y : List D), eqOk s x y → eqSig s x y = some (dB (eqPr s x y))
  | [], [], [], _ => by simp [eqSig, eqPr, dB_True]
  | 0 :: s, .bool a :: x, .bool b :: y, h => by
    simp only [eqOk] at h
    simp only [eqSig, eqPr]
    by_cases e : a = b
    · simp [e, eqSig_dB s x y h]
    · simp [e, dB_False]
  | 1 :: s, .int k a :: x, .int k' b :: y, h => by
    simp only [eqOk] at h
    obtain ⟨rfl, h⟩ := h
    simp only [eqSig, eqPr]
    by_cases e : a = b
    · simp [e, eqSig_dB s x y h]
    · simp [e, dB_False]
  | 2 :: s, .str a :: x, .str b :: y, h => by
    simp only [eqOk] at h
    simp only [eqSig, eqPr]
    by_cases e : a = b
    · simp [e, eqSig_dB s x y h]
    · simp [e, dB_False]
def eqF (neg : Bool) (sig : List Nat) (x y : D) (t : Nat) (N : EP) (E : Env) : Prop := match x, y with
  | .agg a, .agg b => eqOk sig a b ∧ N (st1 E t (.bool (if neg = true then !dB (eqPr sig a b) else dB (eqPr sig a b))))
  | _, _ => False
def enF (neg : Bool) (x : D) (t : Nat) (N : EP) (E : Env) : Prop := match x with
  | .err b => N (st1 E t (.bool (if neg = true then !b else b)))
  | _ => False
def notF (x : D) (t : Nat) (N : EP) (E : Env) : Prop := match x with
  | .bool b => N (st1 E t (.bool !b))
  | _ => False
def ngF (k : IntKind) (x : D) (t : Nat) (N : EP) (E : Env) : Prop := match x with
  | .int kx n => kx = k ∧ inR k (0 - n) ∧ N (st1 E t (.int k (0 - n)))
  | _ => False
def cvF (k : IntKind) (x : D) (t : Nat) (N : EP) (E : Env) : Prop := match x with
  | .int _ n => inR k n ∧ N (st1 E t (.int k n))
  | _ => False
def byD (l : List UInt8) : List D := l.map fun b => .int .u8 b.toNat
def csF (x : D) (t : Nat) (N : EP) (E : Env) : Prop := match x with
  | .str l => N (st1 E t (.str l))
  | _ => False
def csbF (x : D) (t : Nat) (N : EP) (E : Env) : Prop := match x with
  | .str l => N (st1 E t (.sl l.length (byD l)))
  | _ => False
def cbsF (x : D) (t : Nat) (N : EP) (E : Env) : Prop := match x with
  | .sl n cs | .own _ _ n cs => n = cs.length ∧ ∃ l, byD l = cs ∧ N (st1 E t (.str l))
  | _ => False
def lenF (x : D) (t : Nat) (N : EP) (E : Env) : Prop := match x with
  | .sl n _ => N (st1 E t (.int .i64 n))
  | .own _ _ n _ => N (st1 E t (.int .i64 n))
  | _ => False
def lenSF (x : D) (t : Nat) (N : EP) (E : Env) : Prop := match x with
  | .str l => N (st1 E t (.int .i64 l.length))
  | _ => False
def ixF (x i : D) (t : Nat) (N : EP) (E : Env) : Prop := match x, i with
  | .str l, .int _ n => (0 ≤ n ∧ n < l.length) ∧ N (st1 E t (.int .u8 (l.getD n.toNat 0).toNat))
  | _, _ => False
def iaF (sz : Nat) (s : Option Nat) (x i : D) (t : Nat) (N : EP) (E : Env) : Prop := match x, i with
  | .sl n cs, .int _ k => (0 ≤ k ∧ k < n ∧ k.toNat * sz + sz ≤ cs.length) ∧ N (st1 E t (.pt ((cs.drop (k.toNat * sz)).take sz)))
  | .own _ _ n cs, .int _ k => (match s with
    | some s => (0 ≤ k ∧ k < n ∧ k.toNat * sz + sz ≤ cs.length) ∧ N (st1 E t (.rf s (k.toNat * sz)))
    | none => False)
  | _, _ => False
def iaAF (n sz : Nat) (x : Option Where) (i : D) (t : Nat) (N : EP) (E : Env) : Prop := match x, i with
  | some (.imm cs), .int _ k => (0 ≤ k ∧ k < n ∧ k.toNat * sz + sz ≤ cs.length) ∧ N (st1 E t (.pt ((cs.drop (k.toNat * sz)).take sz)))
  | some (.own s off), .int _ k => (0 ≤ k ∧ k < n) ∧ N (st1 E t (.rf s (off + k.toNat * sz)))
  | _, _ => False
def faF (off : Nat) (x : Option Where) (t : Nat) (N : EP) (E : Env) : Prop := match x with
  | some (.imm cs) => N (st1 E t (.pt (cs.drop off)))
  | some (.own s o) => N (st1 E t (.rf s (o + off)))
  | none => False
def ldC (ag : Bool) (n : Nat) (cs : List D) (t : Nat) (N : EP) (E : Env) : Prop := ∃ d, ofCells ag n cs = some d ∧ N (st1 E t d)
def ldF (ag : Bool) (n : Nat) (x : Option Where) (t : Nat) (N : EP) (E : Env) : Prop := match x with
  | some (.imm cs) => ldC ag n cs t N E
  | some (.own s off) => ldC ag n ((lk E s).mem.drop off) t N E
  | none => False
def stG (n : Nat) (s off : Nat) (g v : D) (N : EP) (E : Env) : Prop :=
  g.wr = true ∧ v.cells.length = n ∧ off + n ≤ g.mem.length ∧ v.cells.all D.one = true ∧ v.isPure = true ∧ N (st1 E s (g.setMem (splice g.mem off v.cells)))
def stF (n : Nat) (x : Option Where) (v : D) (N : EP) (E : Env) : Prop := match x with
  | some (.own s off) => stG n s off (lk E s) v N E
  | _ => False
def bxF (n : Nat) (v : D) (t : Nat) (N : EP) (E : Env) : Prop := v.cells.length = n ∧ v.cells.all D.one = true ∧ v.isPure = true ∧ N (st1 E t (.box true v.cells))
def bldF (r : Option (List D)) (t : Nat) (N : EP) (E : Env) : Prop := ∃ cs, r = some cs ∧ N (st1 E t (.agg cs))
def bldSF (e n : Nat) (r : Option (List D)) (t : Nat) (N : EP) (E : Env) : Prop := ∃ cs, r = some cs ∧ N (st1 E t (.own true e n cs))
def mkSF (e : Nat) (z : List D) (bytes : Nat) (l c : D) (t : Nat) (N : EP) (E : Env) : Prop := match l, c with
  | .int .i64 a, .int .i64 b => (0 ≤ a ∧ a ≤ b ∧ bytes * b ≤ 140737488355328 ∧ b ≤ maxLen) ∧ N (st1 E t (.own true e a.toNat (List.replicate a.toNat z).flatten))
  | _, _ => False
def appF (e sz bytes : Nat) (s : Nat) (u : Option Nat) (x y : D) (t : Nat) (N : EP) (E : Env) : Prop := match x with
  | .own w e' n cs => ∃ m ms, y.slv = some (m, ms) ∧ e' = e ∧ ms.length = m * sz ∧ (n + m) * bytes ≤ 140737488355328 ∧ n + m ≤ maxLen ∧
    N (match u with | some u => st1 (st1 (st1 E t (.own w e (n + m) (cs ++ ms))) s .un) u .un | none => st1 (st1 E t (.own w e (n + m) (cs ++ ms))) s .un)
  | _ => False
def boundF (dflt : Nat) : Option D → Option Int
  | none => some dflt
  | some (.int _ n) => some n
  | _ => none
def slcF (sz s : Nat) (x : D) (lo hi : Option D) (g : D) (t : Nat) (N : EP) (E : Env) : Prop := ∃ n cs h l, x.slv = some (n, cs) ∧ boundF n hi = some h ∧ boundF 0 lo = some l ∧
  0 ≤ l ∧ l ≤ h ∧ h ≤ n ∧ n * sz = cs.length ∧ N (st1 (st1 E t (.sl (h.toNat - l.toNat) (cut sz l.toNat h.toNat cs))) s g.dull)
def slSF (x : D) (lo hi : Option D) (t : Nat) (N : EP) (E : Env) : Prop := match x with
  | .str c => ∃ h l, boundF c.length hi = some h ∧ boundF 0 lo = some l ∧ 0 ≤ l ∧ l ≤ h ∧ h ≤ c.length ∧ N (st1 E t (.str ((c.take h.toNat).drop l.toNat)))
  | _ => False
def mkfF (f : FuncId) (ds : Option (List D)) (dl : List (Nat × D)) (t : Nat) (N : EP) (E : Env) : Prop := ∃ l, ds = some l ∧ N (sets (st1 E t (.clo f l)) dl)
def extF (i : Nat) (x : D) (t : Nat) (N : EP) (E : Env) : Prop := match x with
  | .tup vs => ∃ d, vs[i]? = some d ∧ putF d t N E
  | _ => False
def pickF (c a b : D) (t : Nat) (N : EP) (E : Env) : Prop := match c with
  | .bool c => (c = true → putF a t N E) ∧ (c = false → putF b t N E)
  | _ => False
def fldF (ag : Bool) (off n : Nat) (x : D) (t : Nat) (N : EP) (E : Env) : Prop := match x with
  | .agg cs => ldC ag n (cs.drop off) t N E
  | _ => False
def mmF2 (mx : Bool) (x y : D) (t : Nat) (N : EP) (E : Env) : Prop := match x, y with
  | .int k a, .int k' b => k' = k ∧ N (st1 E t (.int k (if mx = true then (if b > a then b else a) else (if b < a then b else a))))
  | _, _ => False
/-- a call: what is handed on, the slots that are from now on not written -/
def callF (C : CT) (f : FuncId) (ods : Option (List D)) (dl : List (Nat × D)) (t : Nat) (N : EP) (E : Env) : Prop :=
  ∃ ds, ods = some ds ∧ ∃ r, C f ds r ∧ N (sets (st1 E t r) (if r.flat = true then [] else dl))
def callVF (C : CT) (v : D) (ods : Option (List D)) (dl : List (Nat × D)) (t : Nat) (N : EP) (E : Env) : Prop := match v with
  | .clo f caps => callF C f (ods.map (· ++ caps)) dl t N E
  | _ => False

def lgF (s : Nat) (d : D) (t : Nat) (N : EP) (E : Env) : Prop := match d with
  | .gbox G => G = GB + s ∧ N (st1 E t (.al (GB + s)))
  | .box _ [d] => d.isPure = true ∧ d.one = true ∧ N (st1 E t d)
  | _ => False
def zap (l : List Nat) (E : Env) : Env := sets E (l.map fun z => (z, .un))
def sgOF (t : Nat) (ks : List Nat) (d x : D) (N : EP) (E : Env) : Prop := isBox1 d = true ∧ t < GB ∧ ks.all (fun z => z != t && z != GB + t) = true ∧ (match x with
  | .own wr e n cs => N (zap ks (st1 (st1 E t (.gbox (GB + t))) (GB + t) (.own wr e n cs)))
  | _ => False)
def sgPF (t : Nat) (ks : List Nat) (d x : D) (N : EP) (E : Env) : Prop := isBox1 d = true ∧ t < GB ∧ x.isPure = true ∧ x.one = true ∧ ks.all (fun z => z != t && z != GB + t) = true ∧ N (zap ks (st1 (st1 E t (.box true [x])) (GB + t) .un))

def stepF (C : CT) (k : K) (t : Nat) (N : EP) (E : Env) : Prop := match k with
  | .bad => False
  | .mv (.k d) => putF d t N E
  | .mv (.v s) => mvF s (lk E s) t N E
  | .mv (.o u s) => moF s (lk E u) t N E
  | .cp x => putF (x.ev (lk E)) t N E
  | .nil e => N (st1 E t (.own true e 0 []))
  | .tk s => tkF s (lk E s) t N E
  | .sh (.v s) => shF s (lk E s) (lk E s) t N E
  | .sh (.o u s) => shF s (PX.ev (lk E) (.o u s)) (lk E s) t N E
  | .sh (.k _) => False
  | .ari op kd x y => ariF op kd (x.ev (lk E)) (y.ev (lk E)) t N E
  | .ci op x y => ciF op (x.ev (lk E)) (y.ev (lk E)) t N E
  | .cat x y => catF (x.ev (lk E)) (y.ev (lk E)) t N E
  | .sc op x y => scF op (x.ev (lk E)) (y.ev (lk E)) t N E
  | .eqb neg x y => ebF neg (x.ev (lk E)) (y.ev (lk E)) t N E
  | .eq neg sig x y => eqF neg sig (x.ev (lk E)) (y.ev (lk E)) t N E
  | .en neg x => enF neg (x.ev (lk E)) t N E
  | .not x => notF (x.ev (lk E)) t N E
  | .ng kd x => ngF kd (x.ev (lk E)) t N E
  | .cvI kd x => cvF kd (x.ev (lk E)) t N E
  | .cvS x => csF (x.ev (lk E)) t N E
  | .cvSB x => csbF (x.ev (lk E)) t N E
  | .cvBS x => cbsF (x.ev (lk E)) t N E
  | .len x => lenF (x.ev (lk E)) t N E
  | .lenS x => lenSF (x.ev (lk E)) t N E
  | .ix x i => ixF (x.ev (lk E)) (i.ev (lk E)) t N E
  | .ia sz x i => iaF sz x.slot (x.ev (lk E)) (i.ev (lk E)) t N E
  | .iaA n sz x i => iaAF n sz (x.at (lk E)) (i.ev (lk E)) t N E
  | .fa off x => faF off (x.at (lk E)) t N E
  | .ld ag n x => ldF ag n (x.at (lk E)) t N E
  | .st n x v => stF n (x.at (lk E)) (v.ev (lk E)) N E
  | .alloc z => N (st1 E t (.box true z))
  | .bx n x => bxF n (x.ev (lk E)) t N E
  | .bld z ps => bldF (fillD z (ps.map fun (o, n, x) => (o, n, x.ev (lk E)))) t N E
  | .bldS e z n ps => bldSF e n (fillD (List.replicate n z).flatten (ps.map fun (o, m, x) => (o, m, x.ev (lk E)))) t N E
  | .mkS e z bytes l c => mkSF e z bytes (l.ev (lk E)) (c.ev (lk E)) t N E
  | .app e sz bytes (.v s) y => appF e sz bytes s none (lk E s) (y.ev (lk E)) t N E
  | .app e sz bytes (.o u s) y => appF e sz bytes s (some u) (PX.ev (lk E) (.o u s)) (y.ev (lk E)) t N E
  | .app _ _ _ (.k _) _ => False
  | .slc sz (.v s) lo hi => slcF sz s (lk E s) (lo.map (PX.ev (lk E))) (hi.map (PX.ev (lk E))) (lk E s) t N E
  | .slc sz (.o u s) lo hi => slcF sz s (PX.ev (lk E) (.o u s)) (lo.map (PX.ev (lk E))) (hi.map (PX.ev (lk E))) (lk E s) t N E
  | .slc _ (.k _) _ _ => False
  | .slS x lo hi => slSF (x.ev (lk E)) (lo.map (PX.ev (lk E))) (hi.map (PX.ev (lk E))) t N E
  | .mkf f caps => mkfF f (optAll (caps.map (capt (lk E)))) (dulls (lk E) caps) t N E
  | .ext s i => extF i (lk E s) t N E
  | .pick c a b => pickF (c.ev (lk E)) (a.ev (lk E)) (b.ev (lk E)) t N E
  | .fld ag off n x => fldF ag off n (x.ev (lk E)) t N E
  | .mm mx [x, y] => mmF2 mx (x.ev (lk E)) (y.ev (lk E)) t N E
  | .mm _ _ => False
  | .call f args => callF C f (optAll (args.map (lend (lk E)))) (dulls (lk E) args) t N E
  | .callV s args => callVF C (lk E s) (optAll (args.map (lend (lk E)))) (dulls (lk E) args) t N E
  | .alG e => N (st1 (st1 E t (.gbox (GB + t))) (GB + t) (.own true e 0 []))
  | .lg s => lgF s (lk E s) t N E
  | .sgO z (.v s) ks => sgOF z (s :: ks) (lk E z) (lk E s) N E
  | .sgO z (.o u s) ks => sgOF z (u :: s :: ks) (lk E z) (PX.ev (lk E) (.o u s)) N E
  | .sgO _ (.k _) _ => False
  | .sgP z v ks => sgPF z ks (lk E z) (v.ev (lk E)) N E

theorem bytesOf_byD : ∀ l, bytesOf (byD l) = some l
  | [] => rfl
  | b :: l => by
    have := bytesOf_byD l
    unfold byD at this
    have hb : (b.toNat : Int) < 256 := by have := b.toNat_lt; omega
    simp only [byD, List.map_cons, bytesOf]
    rw [if_pos ⟨by omega, hb⟩]
    rw [this]
    show some _ = some _
    rw [show UInt8.ofNat (Int.toNat (b.toNat : Int)) = b by simp]

theorem boundF_b {g : G} {dflt most : Nat} {x : Option PX} {n : Int} (h : boundF dflt (x.map (PX.ev g)) = some n) (h0 : 0 ≤ n) (hm : n ≤ most) : bound g dflt most x = some n.toNat := by
  cases x with
  | none => simp [boundF] at h; subst h; simp [bound]
  | some x =>
    simp only [Option.map_some] at h
    simp only [bound]
    cases hq : x.ev g <;> rw [hq] at h <;> simp only [boundF] at h <;> cases h
    simp [h0, hm]

theorem lk_out {g : G} {x : PX} {s : Nat} (hs : x.slot = some s) : True := trivial

theorem stepF_sound {C : CT} {k : K} {d : Option Nat} {t : Nat} {N : EP} {E : Env} (ht : d.getD 0 = t) (h : stepF C k t N E) : doE C ⟨d, k, none⟩ N E := by
  have hd : (PO.d ⟨d, k, none⟩) = t := ht
  unfold doE
  simp only [hd]
  cases k
  case bad => exact h.elim
  case mv x =>
    cases x with
    | k d => obtain ⟨h1, h2⟩ := h; simp only [K.run, h1, if_true, sets]; exact h2
    | v s =>
      simp only [stepF] at h
      simp only [K.run]
      cases hq : lk E s <;> rw [hq] at h <;> simp only [mvF] at h <;> first | exact h.elim | exact h
    | o u s =>
      simp only [stepF] at h
      simp only [K.run]
      cases hq : lk E u <;> rw [hq] at h <;> simp only [moF] at h <;> first
        | exact h.elim
        | exact h
        | (simp only [h.1, if_true, sets]; exact h.2)
  case cp x => obtain ⟨h1, h2⟩ := h; simp only [K.run, h1, if_true, sets]; exact h2
  case nil e => exact h
  case tk s =>
    simp only [stepF] at h
    simp only [K.run]
    cases hq : lk E s <;> rw [hq] at h <;> simp only [tkF] at h <;> first | exact h.elim | exact h
  case sh x =>
    cases x with
    | k d => exact h.elim
    | v s =>
      simp only [stepF] at h
      simp only [K.run, PX.slot, PX.ev]
      cases hq : lk E s <;> rw [hq] at h <;> simp only [shF] at h <;> first | exact h.elim | exact h | (dsimp only [sets]; rw [hq]; exact h)
    | o u s =>
      simp only [stepF] at h
      simp only [K.run, PX.slot]
      cases hq : PX.ev (lk E) (.o u s) <;> rw [hq] at h <;> simp only [shF] at h <;> first | exact h.elim | exact h
  case ari op kd x y =>
    simp only [stepF] at h
    simp only [K.run]
    cases hx : x.ev (lk E) <;> rw [hx] at h <;> simp only [ariF] at h <;> try exact h.elim
    cases hy : y.ev (lk E) <;> rw [hy] at h <;> simp only at h <;> try exact h.elim
    obtain ⟨rfl, rfl, h⟩ := h
    simp only [and_self, if_true]
    cases op <;> simp only at h <;> simp only [arith] <;> first
      | exact h.elim
      | (obtain ⟨h1, h2⟩ := h; rw [h1]; exact h2)
      | (obtain ⟨h0, h1, h2⟩ := h; rw [if_neg h0, h1]; exact h2)
      | (obtain ⟨h0, h2⟩ := h; rw [if_neg h0]; exact h2)
  case ci op x y =>
    simp only [stepF] at h
    simp only [K.run]
    cases hx : x.ev (lk E) <;> rw [hx] at h <;> simp only [ciF] at h <;> try exact h.elim
    cases hy : y.ev (lk E) <;> rw [hy] at h <;> simp only at h <;> try exact h.elim
    obtain ⟨rfl, h⟩ := h
    simp only [if_true]
    cases op <;> simp only at h <;> simp only [cmpI, Option.map_some, sets] <;> first
      | exact h.elim
      | (rw [dB_dec]; exact h)
      | (rw [show ∀ a b : Int, (a == b) = dB (a = b) from fun a b => by rw [← dB_dec]; by_cases e : a = b <;> simp [e]]; exact h)
      | (rw [show ∀ a b : Int, (a != b) = dB (¬ a = b) from fun a b => by rw [← dB_dec]; by_cases e : a = b <;> simp [e]]; exact h)
  case cat x y =>
    simp only [stepF] at h
    simp only [K.run]
    cases hx : x.ev (lk E) <;> rw [hx] at h <;> simp only [catF] at h <;> try exact h.elim
    cases hy : y.ev (lk E) <;> rw [hy] at h <;> simp only at h <;> try exact h.elim
    dsimp only; rw [if_pos h.1]; exact h.2
  case sc op x y =>
    simp only [stepF] at h
    simp only [K.run]
    cases hx : x.ev (lk E) <;> rw [hx] at h <;> simp only [scF] at h <;> try exact h.elim
    cases hy : y.ev (lk E) <;> rw [hy] at h <;> simp only at h <;> try exact h.elim
    cases op <;> simp only at h <;> simp only [cmpS, Option.map_some, sets] <;> first
      | exact h.elim
      | exact h
      | (rw [show ∀ a b : List UInt8, (a == b) = dB (a = b) from fun a b => by rw [← dB_dec]; by_cases e : a = b <;> simp [e]]; exact h)
      | (rw [show ∀ a b : List UInt8, (!(a == b)) = dB (¬ a = b) from fun a b => by rw [← dB_dec]; by_cases e : a = b <;> simp [e]]; exact h)
  case eqb neg x y =>
    simp only [stepF] at h
    simp only [K.run]
    cases hx : x.ev (lk E) <;> rw [hx] at h <;> simp only [ebF] at h <;> try exact h.elim
    cases hy : y.ev (lk E) <;> rw [hy] at h <;> simp only at h <;> try exact h.elim
    exact h
  case eq neg sig x y =>
    simp only [stepF] at h
    simp only [K.run]
    cases hx : x.ev (lk E) <;> rw [hx] at h <;> simp only [eqF] at h <;> try exact h.elim
    cases hy : y.ev (lk E) <;> rw [hy] at h <;> simp only at h <;> try exact h.elim
    simp only [eqSig_dB _ _ _ h.1]
    exact h.2
  case en neg x =>
    simp only [stepF] at h
    simp only [K.run]
    cases hx : x.ev (lk E) <;> rw [hx] at h <;> simp only [enF] at h <;> first | exact h.elim | exact h
  case not x =>
    simp only [stepF] at h
    simp only [K.run]
    cases hx : x.ev (lk E) <;> rw [hx] at h <;> simp only [notF] at h <;> first | exact h.elim | exact h
  case ng kd x =>
    simp only [stepF] at h
    simp only [K.run]
    cases hx : x.ev (lk E) <;> rw [hx] at h <;> simp only [ngF] at h <;> try exact h.elim
    obtain ⟨rfl, h1, h2⟩ := h
    simp only [if_true]; rw [h1]; exact h2
  case cvI kd x =>
    simp only [stepF] at h
    simp only [K.run]
    cases hx : x.ev (lk E) <;> rw [hx] at h <;> simp only [cvF] at h <;> try exact h.elim
    obtain ⟨h1, h2⟩ := h
    simp only; rw [h1]; exact h2
  case cvS x =>
    simp only [stepF] at h
    simp only [K.run]
    cases hx : x.ev (lk E) <;> rw [hx] at h <;> simp only [csF] at h <;> first | exact h.elim | exact h
  case cvSB x =>
    simp only [stepF] at h
    simp only [K.run]
    cases hx : x.ev (lk E) <;> rw [hx] at h <;> simp only [csbF] at h <;> first | exact h.elim | exact h
  case cvBS x =>
    simp only [stepF] at h
    simp only [K.run]
    cases hx : x.ev (lk E) <;> rw [hx] at h <;> simp only [cbsF] at h <;> try exact h.elim
    all_goals
      obtain ⟨rfl, l, rfl, h⟩ := h
      simp only [D.slv, if_true, bytesOf_byD]
      exact h
  case len x =>
    simp only [stepF] at h
    simp only [K.run]
    cases hx : x.ev (lk E) <;> rw [hx] at h <;> simp only [lenF] at h <;> first | exact h.elim | exact h
  case lenS x =>
    simp only [stepF] at h
    simp only [K.run]
    cases hx : x.ev (lk E) <;> rw [hx] at h <;> simp only [lenSF] at h <;> first | exact h.elim | exact h
  case ix x i =>
    simp only [stepF] at h
    simp only [K.run]
    cases hx : x.ev (lk E) <;> rw [hx] at h <;> simp only [ixF] at h <;> try exact h.elim
    cases hy : i.ev (lk E) <;> rw [hy] at h <;> simp only at h <;> try exact h.elim
    dsimp only; rw [if_pos h.1]; exact h.2
  case ia sz x i =>
    simp only [stepF] at h
    simp only [K.run]
    cases hx : x.ev (lk E) <;> rw [hx] at h <;> simp only [iaF] at h <;> try exact h.elim
    all_goals
      cases hy : i.ev (lk E) <;> rw [hy] at h <;> simp only at h <;> try exact h.elim
    · dsimp only; rw [if_pos h.1]; exact h.2
    · cases hs : x.slot <;> rw [hs] at h <;> simp only at h <;> try exact h.elim
      simp only
      rw [if_pos h.1]; exact h.2
  case iaA n sz x i =>
    simp only [stepF] at h
    simp only [K.run]
    cases hx : x.at (lk E) with
    | none => rw [hx] at h; exact h.elim
    | some p =>
      rw [hx] at h
      cases p <;> cases hy : i.ev (lk E) <;> rw [hy] at h <;> simp only [iaAF] at h <;> try exact h.elim
      all_goals
        simp only
        rw [if_pos h.1]; exact h.2
  case fa off x =>
    simp only [stepF] at h
    simp only [K.run]
    cases hx : x.at (lk E) with
    | none => rw [hx] at h; exact h.elim
    | some p => rw [hx] at h; cases p <;> exact h
  case ld ag n x =>
    simp only [stepF] at h
    simp only [K.run]
    cases hx : x.at (lk E) with
    | none => rw [hx] at h; exact h.elim
    | some p =>
      rw [hx] at h
      cases p <;> (obtain ⟨d, h1, h2⟩ := h; simp only [Where.cells, h1]; exact h2)
  case st n x v =>
    simp only [stepF] at h
    simp only [K.run]
    cases hx : x.at (lk E) with
    | none => rw [hx] at h; exact h.elim
    | some p =>
      rw [hx] at h
      cases p
      · obtain ⟨h1, h2, h3, h4, h5, h6⟩ := h
        simp only
        rw [if_pos ⟨h1, h2, h3, h4, h5⟩]; exact h6
      · exact h.elim
  case alloc z => exact h
  case bx n x =>
    obtain ⟨h1, h2, h3, h4⟩ := h
    simp only [K.run]
    rw [if_pos ⟨h1, h2, h3⟩]; exact h4
  case bld z ps =>
    obtain ⟨cs, h1, h2⟩ := h
    simp only [K.run, h1]; exact h2
  case bldS e z n ps =>
    obtain ⟨cs, h1, h2⟩ := h
    simp only [K.run, h1]; exact h2
  case mkS e z bytes l c =>
    simp only [stepF] at h
    simp only [K.run]
    unfold mkSF at h
    split at h <;> try exact h.elim
    rename_i hx hy
    simp only [hx, hy]
    rw [if_pos h.1]; exact h.2
  case app e sz bytes x y =>
    cases x with
    | k d => exact h.elim
    | v s =>
      simp only [stepF] at h
      simp only [K.run, PX.slot, show ∀ g : G, PX.ev g (.v s) = g s from fun _ => rfl]
      cases hx : lk E s <;> rw [hx] at h <;> simp only [appF] at h <;> try exact h.elim
      obtain ⟨m, ms, h1, h2, h3, h4, h5, h6⟩ := h
      simp only [h1]
      rw [if_pos ⟨h2, h3, h4, h5⟩]; exact h6
    | o u s =>
      simp only [stepF] at h
      simp only [K.run, PX.slot]
      cases hx : PX.ev (lk E) (.o u s) <;> rw [hx] at h <;> simp only [appF] at h <;> try exact h.elim
      obtain ⟨m, ms, h1, h2, h3, h4, h5, h6⟩ := h
      simp only [h1]
      rw [if_pos ⟨h2, h3, h4, h5⟩]; exact h6
  case slc sz x lo hi =>
    cases x with
    | k d => exact h.elim
    | v s =>
      obtain ⟨n, cs, hh, l, h1, h2, h3, h4, h5, h6, h7, h8⟩ := h
      simp only [K.run, PX.slot, PX.ev, h1, boundF_b h2 (by omega) h6, boundF_b (most := hh.toNat) h3 h4 (by omega), h7, if_true]
      exact h8
    | o u s =>
      obtain ⟨n, cs, hh, l, h1, h2, h3, h4, h5, h6, h7, h8⟩ := h
      simp only [K.run, PX.slot, h1, boundF_b h2 (by omega) h6, boundF_b (most := hh.toNat) h3 h4 (by omega), h7, if_true]
      exact h8
  case slS x lo hi =>
    simp only [stepF] at h
    simp only [K.run]
    cases hx : x.ev (lk E) <;> rw [hx] at h <;> simp only [slSF] at h <;> try exact h.elim
    obtain ⟨hh, l, h2, h3, h4, h5, h6, h8⟩ := h
    simp only [boundF_b h2 (by omega) h6, boundF_b (most := hh.toNat) h3 h4 (by omega)]
    exact h8
  case mkf f caps =>
    obtain ⟨l, h1, h2⟩ := h
    simp only [K.run, h1]; exact h2
  case ext s i =>
    simp only [stepF] at h
    simp only [K.run]
    cases hx : lk E s <;> rw [hx] at h <;> simp only [extF] at h <;> try exact h.elim
    obtain ⟨d, h1, h2, h3⟩ := h
    simp only [h1, Option.bind_some, h2, if_true]; exact h3
  case pick c a b =>
    simp only [stepF] at h
    simp only [K.run]
    cases hx : c.ev (lk E) <;> rw [hx] at h <;> simp only [pickF] at h <;> try exact h.elim
    rename_i b
    cases b
    · obtain ⟨h1, h2⟩ := h.2 rfl
      simp only [Bool.false_eq_true, if_false, h1, if_true]; exact h2
    · obtain ⟨h1, h2⟩ := h.1 rfl
      simp only [if_true, h1]; exact h2
  case fld ag off n x =>
    simp only [stepF] at h
    simp only [K.run]
    cases hx : x.ev (lk E) <;> rw [hx] at h <;> simp only [fldF] at h <;> try exact h.elim
    obtain ⟨d, h1, h2⟩ := h
    simp only [h1]; exact h2
  case mm mx xs =>
    match xs, h with
    | [x, y], h =>
      simp only [stepF] at h
      simp only [K.run, List.map_cons, List.map_nil]
      cases hx : x.ev (lk E) <;> rw [hx] at h <;> simp only [mmF2] at h <;> try exact h.elim
      cases hy : y.ev (lk E) <;> rw [hy] at h <;> simp only at h <;> try exact h.elim
      obtain ⟨rfl, h⟩ := h
      simp only [kval, optAll, Option.map_some, List.all_cons, List.all_nil, decide_true, Bool.and_self, if_true, List.foldl_cons, List.foldl_nil]
      exact h
  case call f args =>
    obtain ⟨ds, h1, r, h2, h3⟩ := h
    simp only [CallP, h1]
    exact ⟨r, h2, h3⟩
  case callV s args =>
    simp only [stepF] at h
    cases hx : lk E s <;> rw [hx] at h <;> simp only [callVF] at h <;> try exact h.elim
    obtain ⟨ds, h1, r, h2, h3⟩ := h
    dsimp only
    rw [hx]
    dsimp only
    rw [h1]
    exact ⟨r, h2, h3⟩
  case alG e => exact h
  case lg s =>
    simp only [stepF] at h
    simp only [K.run]
    cases hq : lk E s <;> rw [hq] at h <;> simp only [lgF] at h <;> try exact h.elim
    · rename_i wr cs
      match cs, h with
      | [d], h =>
        simp only
        rw [if_pos ⟨h.1, h.2.1⟩]
        exact h.2.2
    · obtain ⟨rfl, h⟩ := h
      simp only [if_true]
      exact h
  case sgO z v ks =>
    cases v with
    | k d => exact h.elim
    | v s =>
      obtain ⟨h1, h2, h3, h5⟩ := h
      simp only [K.run]
      rw [if_pos ⟨h1, h2, h3⟩]
      simp only [PX.slot, PX.ev, PX.reads]
      cases hq : lk E s <;> rw [hq] at h5 <;> simp only at h5 <;> try exact h5.elim
      exact h5
    | o u s =>
      obtain ⟨h1, h2, h3, h5⟩ := h
      simp only [K.run]
      rw [if_pos ⟨h1, h2, h3⟩]
      simp only [PX.slot, PX.reads]
      cases hq : PX.ev (lk E) (.o u s) <;> rw [hq] at h5 <;> simp only at h5 <;> try exact h5.elim
      exact h5
  case sgP z v ks =>
    obtain ⟨h1, h2, h3, h4, h5, h6⟩ := h
    simp only [K.run]
    rw [if_pos ⟨h1, h2, h3, h4, h5⟩]
    exact h6

end Go.Pi
