/-
  SEAT 22: more contracts of the library; column.Text. Own work.
-/
import Derived.Test.YthfgjhnckegneaaGreatDoorPj
import Derived.Test.YthfgjhnckegneaaGreatDoorEa
import Derived.Test.YthfgjhnckegneaaGreatDoorEb
import Derived.Test.YthfgjhnckegneaaGreatDoorSa
import Derived.Test.YthfgjhnckegneaaGreatDoorSb
import Derived.Test.YthfgjhnckegneaaGreatDoorPi
import Derived.Test.YthfgjhnckegneaaGreatDoorRb
import Derived.Test.YthfgjhnckegneaaGreatDoorSc
namespace Go.Proofs
open Go Go.Pi Go.RowKit

theorem reps_2 {S : Nat → Nat → Prop} {w : World} {d e : D} {vs : List Value} (h : Reps S w [d, e] vs) : ∃ x y, vs = [x, y] ∧ Rep S w d x ∧ Rep S w e y := by
  obtain ⟨x, vs', rfl, h1, h2⟩ := h.uncons
  obtain ⟨y, rfl, h3⟩ := reps_1 h2
  exact ⟨x, y, rfl, h1, h3⟩

theorem Tryz.c130 (l : List UInt8) (c : UInt8) : Con Tryz.prog Tryz.L 130 [.str l, .int .u8 c.toNat] (.int .i64 (Lib.indexByte l c)) := by
  refine con_val (by kernel_rfl) rfl fun S w vs hL hv => ?_
  obtain ⟨x, y, rfl, h1, h2⟩ := reps_2 hv
  cases h1; cases h2
  refine (Tryz.stringslite_IndexByte ⟨l.toArray⟩ c.toNat w).mono ?_
  rintro e w' ⟨rfl, rfl⟩
  exact ⟨_, rfl, Below.refl _ _, fun _ _ => by simpa using .int _ _⟩

theorem Tryz.c148 (l : List UInt8) (c : UInt8) : Con Tryz.prog Tryz.L 148 [.str l, .str [c]] (.int .i64 (Lib.indexByte l c)) := by
  refine con_val (by kernel_rfl) rfl fun S w vs hL hv => ?_
  obtain ⟨x, y, rfl, h1, h2⟩ := reps_2 hv
  cases h1; cases h2
  refine (Tryz.stringslite_Index_one ⟨l.toArray⟩ c w).mono ?_
  rintro e w' ⟨rfl, rfl⟩
  exact ⟨_, rfl, Below.refl _ _, fun _ _ => by simpa using .int _ _⟩

/-- a layer: its unit, its bounds -/
structure Lay where
  u : List UInt8
  a : List UInt8
  b : List UInt8
  deriving DecidableEq

def Lay.d (x : Lay) : List D := [.str x.u, .str x.a, .str x.b]
abbrev lays (l : List Lay) : List D := rows Lay.d l
theorem Lay.d_len (x : Lay) : x.d.length = 3 := rfl

/-- the line of a layer -/
def Lay.line (x : Lay) : List UInt8 := x.u ++ [32] ++ x.a ++ [32] ++ (if x.b = [] then [45] else x.b)
def Lay.small (x : Lay) : Prop := x.u.length ≤ 1000 ∧ x.a.length ≤ 1000 ∧ x.b.length ≤ 1000

theorem Tryz.c13 (l : List Lay) (hs : ∀ x ∈ l, x.small) (hl : l.length ≤ 1000) (hc : Con Tryz.prog Tryz.L 45 [.sl l.length (lays l)] (.int .i64 0)) :
    Con Tryz.prog Tryz.L 13 [.sl l.length (lays l)] (.tup [.sl l.length (strs (l.reverse.map Lay.line)), .int .i64 0]) := by
  refine rule13 Tryz.hL (fun q hq => by simp [PC.backs, pc13] at hq; subst hq; exact back53) rfl rfl rfl ?_
  simp only [pc13, rs13, evA, evB, evC, forall_const, implies_true, initE, stepF, D.clean, mvF, moF, tkF, shF, ariF, ciF, catF, scF, ebF, eqF, eqOk, eqPr, enF, notF, ngF, cvF, csF, csbF, lenF, lenSF, ixF, iaF, PX.slot, iaAF, faF, ldF, D.mem, stF, bxF, mkSF, boundF, fldF, mmF2, D.plain, D.isPure, optAll, D.dull, callVF, splice, D.cells, D.one, sets, resT, D.flat, D.flat0, D.simple, Nat.reduceBNe, Nat.reduceLT, reduceIte, Nat.reduceEqDiff, Nat.reduceAdd, Nat.reduceMul, Nat.reduceSub, Nat.reduceLeDiff, Int.reduceToNat, Int.reduceLT, Int.reduceLE, Int.reduceEq, Int.reduceNeg, Int.reduceSub, Int.reduceAdd, Int.reduceMul]
  refine callF_of hc ?_
  simp only [evA, evB, evC, forall_const, implies_true, initE, stepF, D.clean, mvF, moF, tkF, shF, ariF, ciF, catF, scF, ebF, eqF, eqOk, eqPr, enF, notF, ngF, cvF, csF, csbF, lenF, lenSF, ixF, iaF, PX.slot, iaAF, faF, ldF, D.mem, stF, bxF, mkSF, boundF, fldF, mmF2, D.plain, D.isPure, optAll, D.dull, callVF, splice, D.cells, D.one, sets, resT, D.flat, D.flat0, D.simple, Nat.reduceBNe, Nat.reduceLT, reduceIte, Nat.reduceEqDiff, Nat.reduceAdd, Nat.reduceMul, Nat.reduceSub, Nat.reduceLeDiff, Int.reduceToNat, Int.reduceLT, Int.reduceLE, Int.reduceEq, Int.reduceNeg, Int.reduceSub, Int.reduceAdd, Int.reduceMul]
  refine callF_of (Tryz.c14 _ _) ?_
  simp only [evA, evB, evC, forall_const, implies_true, initE, stepF, D.clean, mvF, moF, tkF, shF, ariF, ciF, catF, scF, ebF, eqF, eqOk, eqPr, enF, notF, ngF, cvF, csF, csbF, lenF, lenSF, ixF, iaF, PX.slot, iaAF, faF, ldF, D.mem, stF, bxF, mkSF, boundF, fldF, mmF2, D.plain, D.isPure, optAll, D.dull, callVF, splice, D.cells, D.one, sets, resT, D.flat, D.flat0, D.simple, Nat.reduceBNe, Nat.reduceLT, reduceIte, Nat.reduceEqDiff, Nat.reduceAdd, Nat.reduceMul, Nat.reduceSub, Nat.reduceLeDiff, Int.reduceToNat, Int.reduceLT, Int.reduceLE, Int.reduceEq, Int.reduceNeg, Int.reduceSub, Int.reduceAdd, Int.reduceMul]
  refine rfnF_of (fun k E => ∃ hk : k ≤ l.length, E = [(5, .gbox 1000005), (15, .clo 53 [.pt [.sl l.length (lays l)]]), (1000005, .own true 9 k (strs ((l.reverse.map Lay.line).take k)))])
    (by rw [rows_length Lay.d_len]) ⟨Nat.zero_le _, rfl⟩ (fun k E1 hE => by obtain ⟨_, rfl⟩ := hE; rfl) ?_ ?_
  · rintro _ ⟨_, rfl⟩
    simp only [evA, evB, evC, forall_const, implies_true, initE, stepF, D.clean, mvF, moF, tkF, shF, ariF, ciF, catF, scF, ebF, eqF, eqOk, eqPr, enF, notF, ngF, cvF, csF, csbF, lenF, lenSF, ixF, iaF, PX.slot, iaAF, faF, ldF, D.mem, stF, bxF, mkSF, boundF, fldF, mmF2, D.plain, D.isPure, optAll, D.dull, callVF, splice, D.cells, D.one, sets, resT, D.flat, D.flat0, D.simple, Nat.reduceBNe, Nat.reduceLT, reduceIte, Nat.reduceEqDiff, Nat.reduceAdd, Nat.reduceMul, Nat.reduceSub, Nat.reduceLeDiff, Int.reduceToNat, Int.reduceLT, Int.reduceLE, Int.reduceEq, Int.reduceNeg, Int.reduceSub, Int.reduceAdd, Int.reduceMul]
    rw [List.take_of_length_le (by simp)]
    simp [resD_two, rvD, lk, D.plain, D.isPure, optAll]
  · rintro k _ hkm ⟨hk, rfl⟩
    have hx : l[l.length - 1 - k]? = some (l[l.length - 1 - k]'(by omega)) := List.getElem?_eq_getElem (by omega)
    have hr : (l.reverse.map Lay.line).take (k + 1) = (l.reverse.map Lay.line).take k ++ [(l[l.length - 1 - k]'(by omega)).line] := by
      rw [List.take_succ_eq_append_getElem (by simpa using hkm)]
      simp [List.getElem_reverse]
    have hsm := hs _ (List.mem_of_getElem? hx)
    generalize l[l.length - 1 - k]'(by omega) = x at hx hr hsm
    refine ⟨_, ofCells_rows Lay.d_len hx, rfl, ?_⟩
    obtain ⟨h1, h2, h3⟩ := hsm
    simp only [Lay.d, evA, evB, evC, forall_const, implies_true, initE, stepF, D.clean, mvF, moF, tkF, shF, ariF, ciF, catF, scF, ebF, eqF, eqOk, eqPr, enF, notF, ngF, cvF, csF, csbF, lenF, lenSF, ixF, iaF, PX.slot, iaAF, faF, ldF, D.mem, stF, bxF, mkSF, boundF, fldF, mmF2, D.plain, D.isPure, optAll, D.dull, callVF, splice, D.cells, D.one, sets, resT, D.flat, D.flat0, D.simple, Nat.reduceBNe, Nat.reduceLT, reduceIte, Nat.reduceEqDiff, Nat.reduceAdd, Nat.reduceMul, Nat.reduceSub, Nat.reduceLeDiff, Int.reduceToNat, Int.reduceLT, Int.reduceLE, Int.reduceEq, Int.reduceNeg, Int.reduceSub, Int.reduceAdd, Int.reduceMul]
    refine ⟨fun hb => ?_, fun hb => ?_⟩
    all_goals
      simp only [List.length_append, List.length_cons, List.length_nil]
      refine ⟨by omega, by omega, by omega, by omega, by omega, by omega, by omega, ?_⟩
      rw [hr, strs_snoc]
      simp [Lay.line, hb]
end Go.Proofs

/-
  SEAT 22: the table for closed runs; known(). Own work.
-/
namespace Go.Proofs
open Go Go.Pi Go.RowKit

def ext22 (f : Nat) (ds : List D) : Option D :=
  match f, ds with
  | 130, [.str l, .int .u8 n] => if 0 ≤ n ∧ n < 256 then some (.int .i64 (Lib.indexByte l n.toNat.toUInt8)) else none
  | 148, [.str l, .str [c]] => some (.int .i64 (Lib.indexByte l c))
  | 85, [.int .i64 n] => if -9223372036854775808 ≤ n ∧ n ≤ 9223372036854775807 then some (.str (Lib.itoa n)) else none
  | 109, [.str l] => if l.length ≤ 1000 then some (match Lib.atoiAll l with
    | .ok v => .tup [.int .i64 v, .err true]
    | .syntax => .tup [.int .i64 0, .err false]
    | .range => .tup [.int .i64 (Lib.atoiSat l), .err false]) else none
  | 128, [.str a, .str b] => some (.int .i64 (Lib.compareBytes a b))
  | _, _ => none

theorem ext22_ok (f : Nat) (ds : List D) (r : D) (h : ext22 f ds = some r) : Con Tryz.prog Tryz.L f ds r := by
  unfold ext22 at h
  split at h
  · rename_i l n
    split at h <;> cases h
    rename_i hn
    have := Tryz.c130 l n.toNat.toUInt8
    rwa [show ((n.toNat.toUInt8.toNat : Nat) : Int) = n by simp; omega] at this
  · cases h; exact Tryz.c148 _ _
  · split at h <;> cases h
    rename_i hn
    exact Tryz.c85 _ (inR_i64.2 hn)
  · split at h <;> cases h
    exact Tryz.c109 _ (by omega)
  · cases h; exact Tryz.c128 _ _
  · cases h

def tab22 : Tab := ⟨tabFn, ext22⟩
theorem tab22_ok : tab22.Ok Tryz.prog Tryz.L := ⟨tabFn_ok, ext22_ok⟩

def outB (o : Option Out) (b : Bool) : Bool := match o with | some (.val (.bool c)) => c == b | _ => false
def outI (o : Option Out) (n : Int) : Bool := match o with | some (.val (.int .i64 m)) => m == n | _ => false
def outS (o : Option Out) (s : List UInt8) : Bool := match o with | some (.val (.str t)) => t == s | _ => false
theorem outB_ok {o : Option Out} {b : Bool} (h : outB o b = true) : o = some (.val (.bool b)) := by
  unfold outB at h; split at h <;> simp_all
theorem outI_ok {o : Option Out} {b : Int} (h : outI o b = true) : o = some (.val (.int .i64 b)) := by
  unfold outI at h; split at h <;> simp_all
theorem outS_ok {o : Option Out} {b : List UInt8} (h : outS o b = true) : o = some (.val (.str b)) := by
  unfold outS at h; split at h <;> simp_all

/-- Of(1, 2) and so on: the numbers of plans -/
theorem t16 : outS (runJ tab22 1000 (.call 16 [.int .i64 1, .int .i64 2])) [49, 47, 50] = true := by kernel_rfl
theorem t62 : outI (runJ tab22 1000 (.call 62 [.str [49, 47, 50]])) 0 = true := by kernel_rfl
end Go.Proofs

/-
  SEAT 22: the place of a unit; which columns are right. Own work.
-/
namespace Go.Proofs
open Go Go.Pi Go.RowKit

theorem ldC_lays {l : List Lay} {k t : Nat} {N : EP} {E : Env} : ldC true 3 (List.take 3 (List.drop (k * 3) (lays l))) t N E = (∃ x, l[k]? = some x ∧ N (st1 E t (.agg x.d))) := by
  unfold ldC
  cases h : l[k]? with
  | none =>
    have hk : l.length ≤ k := by simpa using h
    have e : List.take 3 (List.drop (k * 3) (lays l)) = [] := by rw [List.drop_eq_nil_of_le (by rw [rows_length Lay.d_len]; omega)]; rfl
    rw [e]; simp [ofCells]
  | some x =>
    obtain ⟨r, e⟩ := rows_at Lay.d_len h
    have e2 : List.take 3 (List.drop (k * 3) (lays l)) = x.d := by rw [e]; rfl
    rw [e2]
    simp [ofCells, Lay.d]

/-- the place of the first element with a property, or -1 -/
def idxA {α : Type} (p : α → Bool) : List α → Nat → Int
  | [], _ => -1
  | x :: r, k => if p x then k else idxA p r (k + 1)
def idx {α : Type} (p : α → Bool) (l : List α) : Int := idxA p l 0

theorem drop_cons {α : Type} {l : List α} {k : Nat} {x : α} (h : l[k]? = some x) : l.drop k = x :: l.drop (k + 1) := by
  obtain ⟨hk, rfl⟩ := List.getElem?_eq_some_iff.1 h
  exact List.drop_eq_getElem_cons hk

theorem Tryz.c58 {f : Nat} {caps : List D} (p : Lay → Bool) (l : List Lay) (hl : l.length ≤ 1000) (h : ∀ x ∈ l, Con Tryz.prog Tryz.L f ([.agg x.d] ++ caps) (.bool (p x))) :
    Con Tryz.prog Tryz.L 58 [.sl l.length (lays l), .clo f caps] (.int .i64 (idx p l)) := by
  refine rule58 Tryz.hL rfl rfl rfl ?_
  simp only [pc58, rs58, evA, evB, evC, forall_const, implies_true, initE, stepF, D.clean, mvF, moF, tkF, shF, ariF, ciF, catF, scF, ebF, eqF, eqOk, eqPr, enF, notF, ngF, cvF, csF, csbF, lenF, lenSF, ixF, iaF, PX.slot, iaAF, faF, ldF, D.mem, stF, bxF, mkSF, boundF, fldF, mmF2, D.plain, D.isPure, optAll, D.dull, callVF, splice, D.cells, D.one, sets, resT, D.flat, D.flat0, D.simple, Nat.reduceBNe, Nat.reduceLT, reduceIte, Nat.reduceEqDiff, Nat.reduceAdd, Nat.reduceMul, Nat.reduceSub, Nat.reduceLeDiff, Int.reduceToNat, Int.reduceLT, Int.reduceLE, Int.reduceEq, Int.reduceNeg, Int.reduceSub, Int.reduceAdd, Int.reduceMul]
  refine loopF_of (fun E => ∃ k : Nat, k ≤ l.length ∧ idx p l = idxA p (l.drop k) k ∧ E = [(0, .sl l.length (lays l)), (1, .clo f caps), (7, .int .i64 l.length), (8, .int .i64 k)])
    (fun E => match lk E 8 with | .int _ i => l.length - i.toNat | _ => 0) ⟨0, Nat.zero_le _, rfl, rfl⟩ ?_
  rintro _ ⟨k, hk, hi, rfl⟩
  simp only [evA, evB, evC, forall_const, implies_true, initE, stepF, D.clean, mvF, moF, tkF, shF, ariF, ciF, catF, scF, ebF, eqF, eqOk, eqPr, enF, notF, ngF, cvF, csF, csbF, lenF, lenSF, ixF, iaF, PX.slot, iaAF, faF, ldF, D.mem, stF, bxF, mkSF, boundF, fldF, mmF2, D.plain, D.isPure, optAll, D.dull, callVF, splice, D.cells, D.one, sets, resT, D.flat, D.flat0, D.simple, Nat.reduceBNe, Nat.reduceLT, reduceIte, Nat.reduceEqDiff, Nat.reduceAdd, Nat.reduceMul, Nat.reduceSub, Nat.reduceLeDiff, Int.reduceToNat, Int.reduceLT, Int.reduceLE, Int.reduceEq, Int.reduceNeg, Int.reduceSub, Int.reduceAdd, Int.reduceMul, ldC_lays]
  refine ⟨fun h1 => ?_, fun h1 => ?_⟩
  · have hx : l[k]? = some (l[k]'(by omega)) := List.getElem?_eq_getElem (by omega)
    generalize l[k]'(by omega) = x at hx
    have hd := drop_cons hx
    refine ⟨⟨by omega, by rw [rows_length Lay.d_len]; omega⟩, x, hx, ?_⟩
    refine callF_of (h x (List.mem_of_getElem? hx)) ?_
    simp only [evA, evB, evC, forall_const, implies_true, initE, stepF, D.clean, mvF, moF, tkF, shF, ariF, ciF, catF, scF, ebF, eqF, eqOk, eqPr, enF, notF, ngF, cvF, csF, csbF, lenF, lenSF, ixF, iaF, PX.slot, iaAF, faF, ldF, D.mem, stF, bxF, mkSF, boundF, fldF, mmF2, D.plain, D.isPure, optAll, D.dull, callVF, splice, D.cells, D.one, sets, resT, D.flat, D.flat0, D.simple, Nat.reduceBNe, Nat.reduceLT, reduceIte, Nat.reduceEqDiff, Nat.reduceAdd, Nat.reduceMul, Nat.reduceSub, Nat.reduceLeDiff, Int.reduceToNat, Int.reduceLT, Int.reduceLE, Int.reduceEq, Int.reduceNeg, Int.reduceSub, Int.reduceAdd, Int.reduceMul]
    rw [hd] at hi
    simp only [idxA] at hi
    cases hp : p x with
    | true =>
      simp only [evA, evB, evC, forall_const, implies_true, initE, stepF, D.clean, mvF, moF, tkF, shF, ariF, ciF, catF, scF, ebF, eqF, eqOk, eqPr, enF, notF, ngF, cvF, csF, csbF, lenF, lenSF, ixF, iaF, PX.slot, iaAF, faF, ldF, D.mem, stF, bxF, mkSF, boundF, fldF, mmF2, D.plain, D.isPure, optAll, D.dull, callVF, splice, D.cells, D.one, sets, resT, D.flat, D.flat0, D.simple, Nat.reduceBNe, Nat.reduceLT, reduceIte, Nat.reduceEqDiff, Nat.reduceAdd, Nat.reduceMul, Nat.reduceSub, Nat.reduceLeDiff, Int.reduceToNat, Int.reduceLT, Int.reduceLE, Int.reduceEq, Int.reduceNeg, Int.reduceSub, Int.reduceAdd, Int.reduceMul]
      rw [hi, hp]; rfl
    | false =>
      simp only [evA, evB, evC, forall_const, implies_true, initE, stepF, D.clean, mvF, moF, tkF, shF, ariF, ciF, catF, scF, ebF, eqF, eqOk, eqPr, enF, notF, ngF, cvF, csF, csbF, lenF, lenSF, ixF, iaF, PX.slot, iaAF, faF, ldF, D.mem, stF, bxF, mkSF, boundF, fldF, mmF2, D.plain, D.isPure, optAll, D.dull, callVF, splice, D.cells, D.one, sets, resT, D.flat, D.flat0, D.simple, Nat.reduceBNe, Nat.reduceLT, reduceIte, Nat.reduceEqDiff, Nat.reduceAdd, Nat.reduceMul, Nat.reduceSub, Nat.reduceLeDiff, Int.reduceToNat, Int.reduceLT, Int.reduceLE, Int.reduceEq, Int.reduceNeg, Int.reduceSub, Int.reduceAdd, Int.reduceMul]
      have hi2 : idx p l = idxA p (l.drop (k + 1)) (k + 1) := by rw [hi, hp]; rfl
      refine ⟨by omega, ⟨k + 1, by omega, hi2, rfl⟩, by omega⟩
  · have : k = l.length := by omega
    subst this
    rw [hi]; simp [idxA]

theorem Tryz.c86 (x : Lay) (u : List UInt8) : Con Tryz.prog Tryz.L 86 ([.agg x.d] ++ [.pt [.str u]]) (.bool (x.u == u)) := by
  refine rule86 Tryz.hL rfl rfl rfl ?_
  simp only [pc86, rs86, Lay.d, evA, evB, evC, forall_const, implies_true, initE, stepF, D.clean, mvF, moF, tkF, shF, ariF, ciF, catF, scF, ebF, eqF, eqOk, eqPr, enF, notF, ngF, cvF, csF, csbF, lenF, lenSF, ixF, iaF, PX.slot, iaAF, faF, ldF, D.mem, stF, bxF, mkSF, boundF, fldF, mmF2, D.plain, D.isPure, optAll, D.dull, callVF, splice, D.cells, D.one, sets, resT, D.flat, D.flat0, D.simple, Nat.reduceBNe, Nat.reduceLT, reduceIte, Nat.reduceEqDiff, Nat.reduceAdd, Nat.reduceMul, Nat.reduceSub, Nat.reduceLeDiff, Int.reduceToNat, Int.reduceLT, Int.reduceLE, Int.reduceEq, Int.reduceNeg, Int.reduceSub, Int.reduceAdd, Int.reduceMul]
  rw [Bool.eq_iff_iff, dB_iff]; simp

theorem Tryz.c56 (l : List Lay) (u : List UInt8) (hl : l.length ≤ 1000) : Con Tryz.prog Tryz.L 56 [.sl l.length (lays l), .str u] (.int .i64 (idx (fun x => x.u == u) l)) := by
  refine rule56 Tryz.hL rfl rfl rfl ?_
  simp only [pc56, rs56, evA, evB, evC, forall_const, implies_true, initE, stepF, D.clean, mvF, moF, tkF, shF, ariF, ciF, catF, scF, ebF, eqF, eqOk, eqPr, enF, notF, ngF, cvF, csF, csbF, lenF, lenSF, ixF, iaF, PX.slot, iaAF, faF, ldF, D.mem, stF, bxF, mkSF, boundF, fldF, mmF2, D.plain, D.isPure, optAll, D.dull, callVF, splice, D.cells, D.one, sets, resT, D.flat, D.flat0, D.simple, Nat.reduceBNe, Nat.reduceLT, reduceIte, Nat.reduceEqDiff, Nat.reduceAdd, Nat.reduceMul, Nat.reduceSub, Nat.reduceLeDiff, Int.reduceToNat, Int.reduceLT, Int.reduceLE, Int.reduceEq, Int.reduceNeg, Int.reduceSub, Int.reduceAdd, Int.reduceMul]
  refine callF_of (Tryz.c58 _ l hl fun x _ => Tryz.c86 x u) ?_
  simp only [evA, evB, evC, forall_const, implies_true, initE, stepF, D.clean, mvF, moF, tkF, shF, ariF, ciF, catF, scF, ebF, eqF, eqOk, eqPr, enF, notF, ngF, cvF, csF, csbF, lenF, lenSF, ixF, iaF, PX.slot, iaAF, faF, ldF, D.mem, stF, bxF, mkSF, boundF, fldF, mmF2, D.plain, D.isPure, optAll, D.dull, callVF, splice, D.cells, D.one, sets, resT, D.flat, D.flat0, D.simple, Nat.reduceBNe, Nat.reduceLT, reduceIte, Nat.reduceEqDiff, Nat.reduceAdd, Nat.reduceMul, Nat.reduceSub, Nat.reduceLeDiff, Int.reduceToNat, Int.reduceLT, Int.reduceLE, Int.reduceEq, Int.reduceNeg, Int.reduceSub, Int.reduceAdd, Int.reduceMul]

/-- the error of a layer, but for its unit: none -/
theorem Tryz.c77 (x : Lay) (h1 : Con Tryz.prog Tryz.L 62 [.str x.a] (.int .i64 0)) (h2 : x.b ≠ [] → Con Tryz.prog Tryz.L 62 [.str x.b] (.int .i64 0)) :
    Con Tryz.prog Tryz.L 77 [.agg x.d] (.int .i64 0) := by
  refine rule77 Tryz.hL rfl rfl rfl ?_
  simp only [pc77, rs77, Lay.d, evA, evB, evC, forall_const, implies_true, initE, stepF, D.clean, mvF, moF, tkF, shF, ariF, ciF, catF, scF, ebF, eqF, eqOk, eqPr, enF, notF, ngF, cvF, csF, csbF, lenF, lenSF, ixF, iaF, PX.slot, iaAF, faF, ldF, D.mem, stF, bxF, mkSF, boundF, fldF, mmF2, D.plain, D.isPure, optAll, D.dull, callVF, splice, D.cells, D.one, sets, resT, D.flat, D.flat0, D.simple, Nat.reduceBNe, Nat.reduceLT, reduceIte, Nat.reduceEqDiff, Nat.reduceAdd, Nat.reduceMul, Nat.reduceSub, Nat.reduceLeDiff, Int.reduceToNat, Int.reduceLT, Int.reduceLE, Int.reduceEq, Int.reduceNeg, Int.reduceSub, Int.reduceAdd, Int.reduceMul]
  refine callF_of h1 ?_
  simp only [evA, evB, evC, forall_const, implies_true, initE, stepF, D.clean, mvF, moF, tkF, shF, ariF, ciF, catF, scF, ebF, eqF, eqOk, eqPr, enF, notF, ngF, cvF, csF, csbF, lenF, lenSF, ixF, iaF, PX.slot, iaAF, faF, ldF, D.mem, stF, bxF, mkSF, boundF, fldF, mmF2, D.plain, D.isPure, optAll, D.dull, callVF, splice, D.cells, D.one, sets, resT, D.flat, D.flat0, D.simple, Nat.reduceBNe, Nat.reduceLT, reduceIte, Nat.reduceEqDiff, Nat.reduceAdd, Nat.reduceMul, Nat.reduceSub, Nat.reduceLeDiff, Int.reduceToNat, Int.reduceLT, Int.reduceLE, Int.reduceEq, Int.reduceNeg, Int.reduceSub, Int.reduceAdd, Int.reduceMul]
  intro hb
  refine callF_of (h2 hb) ?_
  simp only [evA, evB, evC, forall_const, implies_true, initE, stepF, D.clean, mvF, moF, tkF, shF, ariF, ciF, catF, scF, ebF, eqF, eqOk, eqPr, enF, notF, ngF, cvF, csF, csbF, lenF, lenSF, ixF, iaF, PX.slot, iaAF, faF, ldF, D.mem, stF, bxF, mkSF, boundF, fldF, mmF2, D.plain, D.isPure, optAll, D.dull, callVF, splice, D.cells, D.one, sets, resT, D.flat, D.flat0, D.simple, Nat.reduceBNe, Nat.reduceLT, reduceIte, Nat.reduceEqDiff, Nat.reduceAdd, Nat.reduceMul, Nat.reduceSub, Nat.reduceLeDiff, Int.reduceToNat, Int.reduceLT, Int.reduceLE, Int.reduceEq, Int.reduceNeg, Int.reduceSub, Int.reduceAdd, Int.reduceMul]

/-- what makes a layer right, as contracts -/
structure LayOk (x : Lay) : Prop where
  n1 : Con Tryz.prog Tryz.L 62 [.str x.a] (.int .i64 0)
  n2 : x.b ≠ [] → Con Tryz.prog Tryz.L 62 [.str x.b] (.int .i64 0)
  nm : Con Tryz.prog Tryz.L 68 [.str x.u] (.bool true)
  sg : ∃ c, 0 ≤ c ∧ Con Tryz.prog Tryz.L 78 [.str x.a] (.int .i64 c)
  cm : x.b ≠ [] → ∃ c, 0 ≤ c ∧ Con Tryz.prog Tryz.L 79 [.str x.b, .str x.a] (.int .i64 c)

theorem idxA_none {α : Type} {p : α → Bool} : ∀ {l : List α} {k : Nat}, (∀ x ∈ l, p x = false) → idxA p l k = -1
  | [], _, _ => rfl
  | x :: l, k, h => by
    simp only [idxA, h x (List.mem_cons_self ..), Bool.false_eq_true, if_false]
    exact idxA_none fun y hy => h y (List.mem_cons_of_mem _ hy)

theorem Tryz.c45 (l : List Lay) (h0 : 0 < l.length) (hl : l.length ≤ 60) (hd : (l.map Lay.u).Nodup) (h : ∀ x ∈ l, LayOk x) : Con Tryz.prog Tryz.L 45 [.sl l.length (lays l)] (.int .i64 0) := by
  refine rule45 Tryz.hL rfl rfl rfl ?_
  simp only [pc45, rs45, evA, evB, evC, forall_const, implies_true, initE, stepF, D.clean, mvF, moF, tkF, shF, ariF, ciF, catF, scF, ebF, eqF, eqOk, eqPr, enF, notF, ngF, cvF, csF, csbF, lenF, lenSF, ixF, iaF, PX.slot, iaAF, faF, ldF, D.mem, stF, bxF, mkSF, boundF, fldF, mmF2, D.plain, D.isPure, optAll, D.dull, callVF, splice, D.cells, D.one, sets, resT, D.flat, D.flat0, D.simple, Nat.reduceBNe, Nat.reduceLT, reduceIte, Nat.reduceEqDiff, Nat.reduceAdd, Nat.reduceMul, Nat.reduceSub, Nat.reduceLeDiff, Int.reduceToNat, Int.reduceLT, Int.reduceLE, Int.reduceEq, Int.reduceNeg, Int.reduceSub, Int.reduceAdd, Int.reduceMul]
  refine ⟨fun h => by omega, fun _ => ⟨fun h => by omega, fun _ => ?_⟩⟩
  refine loopF_of (fun E => ∃ k : Nat, k ≤ l.length ∧ E = [(0, .sl l.length (lays l)), (14, .sl l.length (lays l)), (15, .int .i64 l.length), (16, .int .i64 k)])
    (fun E => match lk E 16 with | .int _ i => l.length - i.toNat | _ => 0) ⟨0, Nat.zero_le _, rfl⟩ ?_
  rintro _ ⟨k, hk, rfl⟩
  simp only [evA, evB, evC, forall_const, implies_true, initE, stepF, D.clean, mvF, moF, tkF, shF, ariF, ciF, catF, scF, ebF, eqF, eqOk, eqPr, enF, notF, ngF, cvF, csF, csbF, lenF, lenSF, ixF, iaF, PX.slot, iaAF, faF, ldF, D.mem, stF, bxF, mkSF, boundF, fldF, mmF2, D.plain, D.isPure, optAll, D.dull, callVF, splice, D.cells, D.one, sets, resT, D.flat, D.flat0, D.simple, Nat.reduceBNe, Nat.reduceLT, reduceIte, Nat.reduceEqDiff, Nat.reduceAdd, Nat.reduceMul, Nat.reduceSub, Nat.reduceLeDiff, Int.reduceToNat, Int.reduceLT, Int.reduceLE, Int.reduceEq, Int.reduceNeg, Int.reduceSub, Int.reduceAdd, Int.reduceMul, ldC_lays, Lay.d]
  intro h1
  have hx : l[k]? = some (l[k]'(by omega)) := List.getElem?_eq_getElem (by omega)
  have hpre : ∀ y ∈ l.take k, (y.u == (l[k]'(by omega)).u) = false := by
    intro y hy
    obtain ⟨j, hj⟩ := List.getElem?_of_mem hy
    rw [List.getElem?_take] at hj
    split at hj <;> try (cases hj; done)
    rename_i hjk
    obtain ⟨hj2, rfl⟩ := List.getElem?_eq_some_iff.1 hj
    rw [beq_eq_false_iff_ne]
    intro e
    have := (List.nodup_iff_pairwise_ne.1 hd)
    rw [List.pairwise_iff_getElem] at this
    exact this j k (by simpa using hj2) (by simpa using (by omega : k < l.length)) hjk (by simpa using e)
  generalize l[k]'(by omega) = x at hx hpre
  have ok := h x (List.mem_of_getElem? hx)
  refine ⟨⟨by omega, by rw [rows_length Lay.d_len]; omega⟩, x, hx, ?_⟩
  refine callF_of (Tryz.c77 x ok.n1 ok.n2) ?_
  simp only [evA, evB, evC, forall_const, implies_true, initE, stepF, D.clean, mvF, moF, tkF, shF, ariF, ciF, catF, scF, ebF, eqF, eqOk, eqPr, enF, notF, ngF, cvF, csF, csbF, lenF, lenSF, ixF, iaF, PX.slot, iaAF, faF, ldF, D.mem, stF, bxF, mkSF, boundF, fldF, mmF2, D.plain, D.isPure, optAll, D.dull, callVF, splice, D.cells, D.one, sets, resT, D.flat, D.flat0, D.simple, Nat.reduceBNe, Nat.reduceLT, reduceIte, Nat.reduceEqDiff, Nat.reduceAdd, Nat.reduceMul, Nat.reduceSub, Nat.reduceLeDiff, Int.reduceToNat, Int.reduceLT, Int.reduceLE, Int.reduceEq, Int.reduceNeg, Int.reduceSub, Int.reduceAdd, Int.reduceMul]
  refine callF_of ok.nm ?_
  simp only [evA, evB, evC, forall_const, implies_true, initE, stepF, D.clean, mvF, moF, tkF, shF, ariF, ciF, catF, scF, ebF, eqF, eqOk, eqPr, enF, notF, ngF, cvF, csF, csbF, lenF, lenSF, ixF, iaF, PX.slot, iaAF, faF, ldF, D.mem, stF, bxF, mkSF, boundF, fldF, mmF2, D.plain, D.isPure, optAll, D.dull, callVF, splice, D.cells, D.one, sets, resT, D.flat, D.flat0, D.simple, Nat.reduceBNe, Nat.reduceLT, reduceIte, Nat.reduceEqDiff, Nat.reduceAdd, Nat.reduceMul, Nat.reduceSub, Nat.reduceLeDiff, Int.reduceToNat, Int.reduceLT, Int.reduceLE, Int.reduceEq, Int.reduceNeg, Int.reduceSub, Int.reduceAdd, Int.reduceMul]
  have hck := Tryz.c56 (l.take k) x.u (by rw [List.length_take]; omega)
  rw [show (l.take k).length = k by rw [List.length_take]; omega, show idx (fun y : Lay => y.u == x.u) (l.take k) = -1 from idxA_none hpre] at hck
  refine ⟨by omega, by omega, by omega, by rw [rows_length Lay.d_len], ?_⟩
  rw [cut_rows Lay.d_len, List.drop_zero]
  refine callF_of hck ?_
  simp only [evA, evB, evC, forall_const, implies_true, initE, stepF, D.clean, mvF, moF, tkF, shF, ariF, ciF, catF, scF, ebF, eqF, eqOk, eqPr, enF, notF, ngF, cvF, csF, csbF, lenF, lenSF, ixF, iaF, PX.slot, iaAF, faF, ldF, D.mem, stF, bxF, mkSF, boundF, fldF, mmF2, D.plain, D.isPure, optAll, D.dull, callVF, splice, D.cells, D.one, sets, resT, D.flat, D.flat0, D.simple, Nat.reduceBNe, Nat.reduceLT, reduceIte, Nat.reduceEqDiff, Nat.reduceAdd, Nat.reduceMul, Nat.reduceSub, Nat.reduceLeDiff, Int.reduceToNat, Int.reduceLT, Int.reduceLE, Int.reduceEq, Int.reduceNeg, Int.reduceSub, Int.reduceAdd, Int.reduceMul]
  obtain ⟨c, hc0, hc⟩ := ok.sg
  refine callF_of hc ?_
  simp only [evA, evB, evC, forall_const, implies_true, initE, stepF, D.clean, mvF, moF, tkF, shF, ariF, ciF, catF, scF, ebF, eqF, eqOk, eqPr, enF, notF, ngF, cvF, csF, csbF, lenF, lenSF, ixF, iaF, PX.slot, iaAF, faF, ldF, D.mem, stF, bxF, mkSF, boundF, fldF, mmF2, D.plain, D.isPure, optAll, D.dull, callVF, splice, D.cells, D.one, sets, resT, D.flat, D.flat0, D.simple, Nat.reduceBNe, Nat.reduceLT, reduceIte, Nat.reduceEqDiff, Nat.reduceAdd, Nat.reduceMul, Nat.reduceSub, Nat.reduceLeDiff, Int.reduceToNat, Int.reduceLT, Int.reduceLE, Int.reduceEq, Int.reduceNeg, Int.reduceSub, Int.reduceAdd, Int.reduceMul]
  refine ⟨fun h => by omega, fun _ => ?_⟩
  refine ⟨fun hb => ?_, fun hb => ?_⟩
  · obtain ⟨c2, hc20, hc2⟩ := ok.cm hb
    refine callF_of hc2 ?_
    simp only [evA, evB, evC, forall_const, implies_true, initE, stepF, D.clean, mvF, moF, tkF, shF, ariF, ciF, catF, scF, ebF, eqF, eqOk, eqPr, enF, notF, ngF, cvF, csF, csbF, lenF, lenSF, ixF, iaF, PX.slot, iaAF, faF, ldF, D.mem, stF, bxF, mkSF, boundF, fldF, mmF2, D.plain, D.isPure, optAll, D.dull, callVF, splice, D.cells, D.one, sets, resT, D.flat, D.flat0, D.simple, Nat.reduceBNe, Nat.reduceLT, reduceIte, Nat.reduceEqDiff, Nat.reduceAdd, Nat.reduceMul, Nat.reduceSub, Nat.reduceLeDiff, Int.reduceToNat, Int.reduceLT, Int.reduceLE, Int.reduceEq, Int.reduceNeg, Int.reduceSub, Int.reduceAdd, Int.reduceMul]
    exact ⟨fun h => by omega, fun _ => ⟨by omega, ⟨k + 1, by omega, rfl⟩, by omega⟩⟩
  · exact ⟨by omega, ⟨k + 1, by omega, rfl⟩, by omega⟩
end Go.Proofs

/-
  SEAT 22: the numbers of plans; known(). Own work.
-/
namespace Go.Proofs
open Go Go.Pi Go.RowKit

/-- a number below 100 in digits; k halves -/
def dec2 (n : Nat) : List UInt8 := if n < 10 then [UInt8.ofNat (48 + n)] else [UInt8.ofNat (48 + n / 10), UInt8.ofNat (48 + n % 10)]
def half (k : Nat) : List UInt8 := if k % 2 = 0 then dec2 (k / 2) else dec2 k ++ [47, 50]

theorem all_range {n : Nat} {p : Nat → Bool} (h : (List.range n).all p = true) : ∀ k, k < n → p k = true := fun k hk => List.all_eq_true.1 h k (List.mem_range.2 hk)
theorem all_range2 {n m : Nat} {p : Nat → Nat → Bool} (h : ((List.range n).all fun a => (List.range m).all (p a)) = true) : ∀ a b, a < n → b < m → p a b = true := fun a b ha hb => all_range (all_range h a ha) b hb

theorem run16 : ((List.range 8).all fun a => outS (runJ tab22 1000 (.call 16 [.int .i64 a, .int .i64 2])) (half a)) = true := by kernel_rfl
theorem run25 : ((List.range 4).all fun a => (List.range 7).all fun b => outS (runJ tab22 1000 (.call 25 [.str (half a), .str (half b)])) (half (a + b))) = true := by kernel_rfl
theorem run62 : ((List.range 20).all fun a => outI (runJ tab22 1000 (.call 62 [.str (half a)])) 0) = true := by kernel_rfl
theorem run78 : ((List.range 10).all fun a => outI (runJ tab22 1000 (.call 78 [.str (half a)])) (if a = 0 then 0 else 1)) = true := by kernel_rfl
theorem run79 : ((List.range 4).all fun a => (List.range 7).all fun b => outI (runJ tab22 1000 (.call 79 [.str (half (a + b)), .str (half a)])) (if b = 0 then 0 else 1)) = true := by kernel_rfl
theorem run68 : ((List.range 6).all fun a => outB (runJ tab22 1000 (.call 68 [.str [UInt8.ofNat (65 + a)]])) true) = true := by kernel_rfl

theorem Tryz.c16 (a : Nat) (h : a < 8) : Con Tryz.prog Tryz.L 16 [.int .i64 a, .int .i64 2] (.str (half a)) := con_run Tryz.hL tab22_ok 1000 (outS_ok (all_range run16 a h))
theorem Tryz.c25 (a b : Nat) (ha : a < 4) (hb : b < 7) : Con Tryz.prog Tryz.L 25 [.str (half a), .str (half b)] (.str (half (a + b))) := con_run Tryz.hL tab22_ok 1000 (outS_ok (all_range2 run25 a b ha hb))
theorem Tryz.c62 (a : Nat) (h : a < 20) : Con Tryz.prog Tryz.L 62 [.str (half a)] (.int .i64 0) := con_run Tryz.hL tab22_ok 1000 (outI_ok (all_range run62 a h))
theorem Tryz.c78 (a : Nat) (h : a < 10) : Con Tryz.prog Tryz.L 78 [.str (half a)] (.int .i64 (if a = 0 then 0 else 1)) := con_run Tryz.hL tab22_ok 1000 (outI_ok (all_range run78 a h))
theorem Tryz.c79 (a b : Nat) (ha : a < 4) (hb : b < 7) : Con Tryz.prog Tryz.L 79 [.str (half (a + b)), .str (half a)] (.int .i64 (if b = 0 then 0 else 1)) := con_run Tryz.hL tab22_ok 1000 (outI_ok (all_range2 run79 a b ha hb))
theorem Tryz.c68 (a : Nat) (h : a < 6) : Con Tryz.prog Tryz.L 68 [.str [UInt8.ofNat (65 + a)]] (.bool true) := con_run Tryz.hL tab22_ok 1000 (outB_ok (all_range run68 a h))

/-- the layer of unit k, with a halves as its least, and b more as its most (7: none) -/
def layOf (k a b : Nat) : Lay := ⟨[UInt8.ofNat (65 + k)], half a, if b = 7 then [] else half (a + b)⟩

theorem half_ne (a : Nat) : half a ≠ [] := by unfold half dec2; split <;> split <;> simp

theorem layOf_ok (k a b : Nat) (hk : k < 6) (ha : a < 4) (hb : b < 8) : LayOk (layOf k a b) := by
  refine ⟨Tryz.c62 a (by omega), fun h => ?_, Tryz.c68 k hk, ⟨_, ?_, Tryz.c78 a (by omega)⟩, fun h => ?_⟩
  · simp only [layOf] at h ⊢
    split at h
    · exact absurd rfl h
    · rename_i hb7; rw [if_neg hb7]; exact Tryz.c62 _ (by omega)
  · split <;> omega
  · simp only [layOf] at h ⊢
    split at h
    · exact absurd rfl h
    · rename_i hb7; rw [if_neg hb7]; exact ⟨_, by split <;> omega, Tryz.c79 a b ha (by omega)⟩

def exampleL : List Lay := [layOf 0 2 2, layOf 1 0 6, layOf 2 2 7]
theorem half_small (a : Nat) : (half a).length ≤ 10 := by unfold half dec2; split <;> split <;> simp
theorem layOf_small (k a b : Nat) : (layOf k a b).small := by
  refine ⟨by simp [layOf], by have := half_small a; simp only [layOf]; omega, ?_⟩
  simp only [layOf]
  split
  · simp
  · have := half_small (a + b); omega

theorem Tryz.c13ex : Con Tryz.prog Tryz.L 13 [.sl 3 (lays exampleL)] (.tup [.sl 3 (strs (exampleL.reverse.map Lay.line)), .int .i64 0]) := by
  refine Tryz.c13 exampleL (fun x hx => ?_) (by decide) (Tryz.c45 exampleL (by decide) (by decide) (by decide) fun x hx => ?_)
  all_goals
    simp only [exampleL, List.mem_cons, List.not_mem_nil, or_false] at hx
    rcases hx with rfl | rfl | rfl
  all_goals first
    | exact layOf_small _ _ _
    | exact layOf_ok _ _ _ (by omega) (by omega) (by omega)

def extK (f : Nat) (ds : List D) : Option D :=
  match f, ds with
  | 13, [.sl 3 [.str [65], .str [49], .str [50], .str [66], .str [48], .str [51], .str [67], .str [49], .str []]] => some (.tup [.sl 3 (strs (exampleL.reverse.map Lay.line)), .int .i64 0])
  | f, ds => ext22 f ds
theorem extK_ok (f : Nat) (ds : List D) (r : D) (h : extK f ds = some r) : Con Tryz.prog Tryz.L f ds r := by
  unfold extK at h
  split at h
  · cases h; exact Tryz.c13ex
  · exact ext22_ok _ _ _ h
def tabK : Tab := ⟨tabFn, extK⟩
theorem tabK_ok : tabK.Ok Tryz.prog Tryz.L := ⟨tabFn_ok, extK_ok⟩

theorem run11 : outB (runJ tabK 2000 (.call 11 [])) true = true := by kernel_rfl
theorem Tryz.c11 : Con Tryz.prog Tryz.L 11 [] (.bool true) := con_run Tryz.hL tabK_ok 2000 (outB_ok run11)
end Go.Proofs

/-
  SEAT 22: slices.Clone; Make; slices.Equal. Own work.
-/
namespace Go.Proofs
open Go Go.Pi Go.RowKit

theorem cu49 {L : World → Prop} : ∀ c, Tryz.f49.body = some c → ∀ q ∈ cusL c pc49, CusOk Tryz.prog L q.1 q.2.1 q.2.2 := by
  intro c hc q hq
  cases Option.some.inj hc
  simp only [pc49, cusL, List.nil_append, List.append_nil, List.mem_singleton, List.cons_append] at hq
  subst hq
  exact nilT_ok rfl rfl rfl rfl rfl rfl rfl Tryz.underlying22 (by decide) (by decide) (by decide)

theorem Tryz.c49 (n : Nat) (cs : List D) (hn : cs.length = n) (hb : n ≤ 140737488355328) : Con Tryz.prog Tryz.L 49 [.sl n cs] (.own true 5 n cs) := by
  refine rule49 Tryz.hL (fun q hq => by simp [PC.backs, pc49] at hq) cu49 rfl rfl rfl ?_
  simp only [pc49, rs49, nilT_f, evA, evB, evC, forall_const, implies_true, initE, stepF, D.clean, mvF, moF, tkF, shF, ariF, ciF, catF, scF, ebF, eqF, eqOk, eqPr, enF, notF, ngF, cvF, csF, csbF, lenF, lenSF, ixF, iaF, PX.slot, iaAF, faF, ldF, D.mem, stF, bxF, mkSF, boundF, fldF, mmF2, D.plain, D.isPure, optAll, D.dull, callVF, splice, D.cells, D.one, sets, resT, D.flat, D.flat0, D.simple, Nat.reduceBNe, Nat.reduceLT, reduceIte, Nat.reduceEqDiff, Nat.reduceAdd, Nat.reduceMul, Nat.reduceSub, Nat.reduceLeDiff, Int.reduceToNat, Int.reduceLT, Int.reduceLE, Int.reduceEq, Int.reduceNeg, Int.reduceSub, Int.reduceAdd, Int.reduceMul]
  refine ⟨n, cs, rfl, fun b hb0 => ?_⟩
  cases b
  · simp only [evA, evB, evC, forall_const, implies_true, initE, stepF, D.clean, mvF, moF, tkF, shF, ariF, ciF, catF, scF, ebF, eqF, eqOk, eqPr, enF, notF, ngF, cvF, csF, csbF, lenF, lenSF, ixF, iaF, PX.slot, iaAF, faF, ldF, D.mem, stF, bxF, mkSF, boundF, fldF, mmF2, D.plain, D.isPure, optAll, D.dull, callVF, splice, D.cells, D.one, sets, resT, D.flat, D.flat0, D.simple, Nat.reduceBNe, Nat.reduceLT, reduceIte, Nat.reduceEqDiff, Nat.reduceAdd, Nat.reduceMul, Nat.reduceSub, Nat.reduceLeDiff, Int.reduceToNat, Int.reduceLT, Int.reduceLE, Int.reduceEq, Int.reduceNeg, Int.reduceSub, Int.reduceAdd, Int.reduceMul]
    omega
  · have := hb0 rfl
    subst this
    have : cs = [] := List.eq_nil_of_length_eq_zero hn
    subst this
    simp only [evA, evB, evC, forall_const, implies_true, initE, stepF, D.clean, mvF, moF, tkF, shF, ariF, ciF, catF, scF, ebF, eqF, eqOk, eqPr, enF, notF, ngF, cvF, csF, csbF, lenF, lenSF, ixF, iaF, PX.slot, iaAF, faF, ldF, D.mem, stF, bxF, mkSF, boundF, fldF, mmF2, D.plain, D.isPure, optAll, D.dull, callVF, splice, D.cells, D.one, sets, resT, D.flat, D.flat0, D.simple, Nat.reduceBNe, Nat.reduceLT, reduceIte, Nat.reduceEqDiff, Nat.reduceAdd, Nat.reduceMul, Nat.reduceSub, Nat.reduceLeDiff, Int.reduceToNat, Int.reduceLT, Int.reduceLE, Int.reduceEq, Int.reduceNeg, Int.reduceSub, Int.reduceAdd, Int.reduceMul]

theorem Tryz.c50 : Con Tryz.prog Tryz.L 50 [] (.own true 9 6 [.str [65], .str [66], .str [67], .str [68], .str [69], .str [70]]) := by
  refine rule50 Tryz.hL rfl rfl rfl ?_
  simp only [pc50, rs50, evA, evB, evC, forall_const, implies_true, initE, stepF, D.clean, mvF, moF, tkF, shF, ariF, ciF, catF, scF, ebF, eqF, eqOk, eqPr, enF, notF, ngF, cvF, csF, csbF, lenF, lenSF, ixF, iaF, PX.slot, iaAF, faF, ldF, D.mem, stF, bxF, mkSF, boundF, fldF, mmF2, D.plain, D.isPure, optAll, D.dull, callVF, splice, D.cells, D.one, sets, resT, D.flat, D.flat0, D.simple, Nat.reduceBNe, Nat.reduceLT, reduceIte, Nat.reduceEqDiff, Nat.reduceAdd, Nat.reduceMul, Nat.reduceSub, Nat.reduceLeDiff, Int.reduceToNat, Int.reduceLT, Int.reduceLE, Int.reduceEq, Int.reduceNeg, Int.reduceSub, Int.reduceAdd, Int.reduceMul]

theorem Tryz.c52 (x : Lay) (u : List UInt8) : Con Tryz.prog Tryz.L 52 ([.agg x.d] ++ [.pt [.str u]]) (.bool (x.u == u)) := by
  refine rule52 Tryz.hL rfl rfl rfl ?_
  simp only [pc52, rs52, Lay.d, evA, evB, evC, forall_const, implies_true, initE, stepF, D.clean, mvF, moF, tkF, shF, ariF, ciF, catF, scF, ebF, eqF, eqOk, eqPr, enF, notF, ngF, cvF, csF, csbF, lenF, lenSF, ixF, iaF, PX.slot, iaAF, faF, ldF, D.mem, stF, bxF, mkSF, boundF, fldF, mmF2, D.plain, D.isPure, optAll, D.dull, callVF, splice, D.cells, D.one, sets, resT, D.flat, D.flat0, D.simple, Nat.reduceBNe, Nat.reduceLT, reduceIte, Nat.reduceEqDiff, Nat.reduceAdd, Nat.reduceMul, Nat.reduceSub, Nat.reduceLeDiff, Int.reduceToNat, Int.reduceLT, Int.reduceLE, Int.reduceEq, Int.reduceNeg, Int.reduceSub, Int.reduceAdd, Int.reduceMul]
  rw [Bool.eq_iff_iff, dB_iff]; simp

theorem Tryz.c51 {f : Nat} {caps : List D} (p : Lay → Bool) (l : List Lay) (hl : l.length ≤ 1000) (h : ∀ x ∈ l, Con Tryz.prog Tryz.L f ([.agg x.d] ++ caps) (.bool (p x))) :
    Con Tryz.prog Tryz.L 51 [.sl l.length (lays l), .clo f caps] (.bool (dB (0 ≤ idx p l))) := by
  refine rule51 Tryz.hL rfl rfl rfl ?_
  simp only [pc51, rs51, evA, evB, evC, forall_const, implies_true, initE, stepF, D.clean, mvF, moF, tkF, shF, ariF, ciF, catF, scF, ebF, eqF, eqOk, eqPr, enF, notF, ngF, cvF, csF, csbF, lenF, lenSF, ixF, iaF, PX.slot, iaAF, faF, ldF, D.mem, stF, bxF, mkSF, boundF, fldF, mmF2, D.plain, D.isPure, optAll, D.dull, callVF, splice, D.cells, D.one, sets, resT, D.flat, D.flat0, D.simple, Nat.reduceBNe, Nat.reduceLT, reduceIte, Nat.reduceEqDiff, Nat.reduceAdd, Nat.reduceMul, Nat.reduceSub, Nat.reduceLeDiff, Int.reduceToNat, Int.reduceLT, Int.reduceLE, Int.reduceEq, Int.reduceNeg, Int.reduceSub, Int.reduceAdd, Int.reduceMul]
  refine callF_of (Tryz.c58 p l hl h) ?_
  simp only [evA, evB, evC, forall_const, implies_true, initE, stepF, D.clean, mvF, moF, tkF, shF, ariF, ciF, catF, scF, ebF, eqF, eqOk, eqPr, enF, notF, ngF, cvF, csF, csbF, lenF, lenSF, ixF, iaF, PX.slot, iaAF, faF, ldF, D.mem, stF, bxF, mkSF, boundF, fldF, mmF2, D.plain, D.isPure, optAll, D.dull, callVF, splice, D.cells, D.one, sets, resT, D.flat, D.flat0, D.simple, Nat.reduceBNe, Nat.reduceLT, reduceIte, Nat.reduceEqDiff, Nat.reduceAdd, Nat.reduceMul, Nat.reduceSub, Nat.reduceLeDiff, Int.reduceToNat, Int.reduceLT, Int.reduceLE, Int.reduceEq, Int.reduceNeg, Int.reduceSub, Int.reduceAdd, Int.reduceMul]

/-! ### Make -/
/-- a plan: its list, its eight bytes -/
structure Pl where
  us : List Int
  a0 : Int
  b0 : Int
  a1 : Int
  b1 : Int
  a2 : Int
  b2 : Int
  a3 : Int
  b3 : Int

def Pl.d (p : Pl) : D := .agg [.sl p.us.length (ints .u8 p.us), .int .u8 p.a0, .int .u8 p.b0, .int .u8 p.a1, .int .u8 p.b1, .int .u8 p.a2, .int .u8 p.b2, .int .u8 p.a3, .int .u8 p.b3]
def isByte (x : Int) : Prop := 0 ≤ x ∧ x < 256
structure Pl.ok (p : Pl) : Prop where
  len : p.us.length ≤ 140737488355327
  us : ∀ x ∈ p.us, isByte x
  a0 : isByte p.a0
  b0 : isByte p.b0
  a1 : isByte p.a1
  b1 : isByte p.b1
  a2 : isByte p.a2
  b2 : isByte p.b2
  a3 : isByte p.a3
  b3 : isByte p.b3

def Pl.at (p : Pl) (k : Nat) : Int × Int := match k with
  | 0 => (p.a0, p.b0)
  | 1 => (p.a1, p.b1)
  | 2 => (p.a2, p.b2)
  | 3 => (p.a3, p.b3)
  | 4 => (p.a0, p.b0)
  | _ => (p.a1, p.b1)

/-- one unit of a plan -/
def Pl.lay (p : Pl) (k : Nat) : Lay := layOf k ((p.at k).1 % 4).toNat ((p.at k).2 % 8).toNat
def mkStep (p : Pl) (out : List Lay) (x : Int) : List Lay :=
  if out.length = 4 ∨ 0 ≤ idx (fun y => y.u == [UInt8.ofNat (65 + (x % 6).toNat)]) out then out else out ++ [p.lay (x % 6).toNat]
def Pl.make (p : Pl) : List Lay := (p.us ++ [0]).foldl (mkStep p) []

theorem foldl_len (p : Pl) : ∀ (l : List Int) (out : List Lay), out.length ≤ 4 → (l.foldl (mkStep p) out).length ≤ 4
  | [], out, h => h
  | x :: l, out, h => by
    refine foldl_len p l _ ?_
    unfold mkStep
    split
    · exact h
    · rename_i hn; simp; omega

theorem tmod_nn {x y : Int} (hx : 0 ≤ x) : x.tmod y = x % y := Int.tmod_eq_emod_of_nonneg hx

theorem lays_snoc {out : List Lay} {x : Lay} : lays (out ++ [x]) = lays out ++ x.d := rows_snoc
theorem snocL (out : List Lay) (x : Lay) {u a b : List UInt8} (hx : x = ⟨u, a, b⟩) : D.own true 39 (out.length + 1) (lays out ++ [.str u, .str a, .str b]) = .own true 39 (out ++ [x]).length (lays (out ++ [x])) := by
  rw [List.length_append, lays_snoc, hx]; rfl
theorem layOf7 (k a b : Nat) (h : ¬¬((b : Int) = 7)) : layOf k a b = ⟨[UInt8.ofNat (65 + k)], half a, []⟩ := by unfold layOf; rw [if_pos (by omega)]
theorem layOf8 (k a b : Nat) (h : ¬((b : Int) = 7)) : layOf k a b = ⟨[UInt8.ofNat (65 + k)], half a, half (a + b)⟩ := by unfold layOf; rw [if_neg (by omega)]
theorem l8 (y : Int) : (y % 8).toNat < 8 := by omega
theorem l84 (y : Int) : (y % 4).toNat < 4 := by omega
theorem l4 (y : Int) : (y % 4).toNat < 8 := by omega
theorem r4 (y : Int) : -9223372036854775808 ≤ ((y % 4).toNat : Int) ∧ ((y % 4).toNat : Int) ≤ 9223372036854775807 := by omega
theorem r8 (y : Int) : -9223372036854775808 ≤ ((y % 8).toNat : Int) ∧ ((y % 8).toNat : Int) ≤ 9223372036854775807 := by omega
set_option maxHeartbeats 2000000 in
theorem Tryz.c12 (p : Pl) (hp : p.ok) : Con Tryz.prog Tryz.L 12 [p.d] (.own true 39 p.make.length (lays p.make)) := by
  have hlen := hp.len
  refine rule12 Tryz.hL rfl rfl rfl ?_
  simp only [pc12, rs12, Pl.d, evA, evB, evC, forall_const, implies_true, initE, stepF, D.clean, mvF, moF, tkF, shF, ariF, ciF, catF, scF, ebF, eqF, eqOk, eqPr, enF, notF, ngF, cvF, csF, csbF, lenF, lenSF, ixF, iaF, PX.slot, iaAF, faF, ldF, D.mem, stF, bxF, mkSF, boundF, fldF, mmF2, D.plain, D.isPure, optAll, D.dull, callVF, splice, D.cells, D.one, sets, resT, D.flat, D.flat0, D.simple, Nat.reduceBNe, Nat.reduceLT, reduceIte, Nat.reduceEqDiff, Nat.reduceAdd, Nat.reduceMul, Nat.reduceSub, Nat.reduceLeDiff, Int.reduceToNat, Int.reduceLT, Int.reduceLE, Int.reduceEq, Int.reduceNeg, Int.reduceSub, Int.reduceAdd, Int.reduceMul]
  refine callF_of (Tryz.c49 _ _ ints_length (by omega)) ?_
  simp only [evA, evB, evC, forall_const, implies_true, initE, stepF, D.clean, mvF, moF, tkF, shF, ariF, ciF, catF, scF, ebF, eqF, eqOk, eqPr, enF, notF, ngF, cvF, csF, csbF, lenF, lenSF, ixF, iaF, PX.slot, iaAF, faF, ldF, D.mem, stF, bxF, mkSF, boundF, fldF, mmF2, D.plain, D.isPure, optAll, D.dull, callVF, splice, D.cells, D.one, sets, resT, D.flat, D.flat0, D.simple, Nat.reduceBNe, Nat.reduceLT, reduceIte, Nat.reduceEqDiff, Nat.reduceAdd, Nat.reduceMul, Nat.reduceSub, Nat.reduceLeDiff, Int.reduceToNat, Int.reduceLT, Int.reduceLE, Int.reduceEq, Int.reduceNeg, Int.reduceSub, Int.reduceAdd, Int.reduceMul]
  refine ⟨by omega, by omega, ?_⟩
  refine loopF_of (fun E => ∃ (k : Nat) (out : List Lay), k ≤ p.us.length + 1 ∧ out.length ≤ 4 ∧ p.make = ((p.us ++ [0]).drop k).foldl (mkStep p) out ∧
      E = [(1, .box true [.sl p.us.length (ints .u8 p.us), .int .u8 p.a0, .int .u8 p.b0, .int .u8 p.a1, .int .u8 p.b1, .int .u8 p.a2, .int .u8 p.b2, .int .u8 p.a3, .int .u8 p.b3]),
        (3, .own true 39 out.length (lays out)), (13, .own true 5 (p.us.length + 1) (ints .u8 (p.us ++ [0]))), (14, .int .i64 (p.us.length + 1 : Nat)), (15, .int .i64 k)])
    (fun E => match lk E 15 with | .int _ i => p.us.length + 1 - i.toNat | _ => 0) ⟨0, [], Nat.zero_le _, Nat.zero_le _, rfl, rfl⟩ ?_
  rintro _ ⟨k, out, hk, hout, hmk, rfl⟩
  simp only [evA, evB, evC, forall_const, implies_true, initE, stepF, D.clean, mvF, moF, tkF, shF, ariF, ciF, catF, scF, ebF, eqF, eqOk, eqPr, enF, notF, ngF, cvF, csF, csbF, lenF, lenSF, ixF, iaF, PX.slot, iaAF, faF, ldF, D.mem, stF, bxF, mkSF, boundF, fldF, mmF2, D.plain, D.isPure, optAll, D.dull, callVF, splice, D.cells, D.one, sets, resT, D.flat, D.flat0, D.simple, Nat.reduceBNe, Nat.reduceLT, reduceIte, Nat.reduceEqDiff, Nat.reduceAdd, Nat.reduceMul, Nat.reduceSub, Nat.reduceLeDiff, Int.reduceToNat, Int.reduceLT, Int.reduceLE, Int.reduceEq, Int.reduceNeg, Int.reduceSub, Int.reduceAdd, Int.reduceMul]
  refine ⟨fun h1 => ?_, fun h1 => ?_⟩
  · have hx : (p.us ++ [0])[k]? = some ((p.us ++ [0])[k]'(by simp; omega)) := List.getElem?_eq_getElem _
    have hxb : isByte ((p.us ++ [0])[k]'(by simp; omega)) := by
      have hm := List.mem_of_getElem? hx
      rw [List.mem_append] at hm
      rcases hm with hm | hm
      · exact hp.us _ hm
      · rw [List.mem_singleton.1 hm]; exact ⟨by omega, by omega⟩
    have hg : (p.us ++ [0]).getD k 0 = (p.us ++ [0])[k]'(by simp; omega) := by rw [List.getD_eq_getElem?_getD, hx]; rfl
    rw [hg]
    generalize (p.us ++ [0])[k]'(by simp; omega) = x at hx hxb
    rw [drop_cons hx, List.foldl_cons] at hmk
    refine ⟨⟨by omega, by simp [ints_length]; omega⟩, by simp; omega, ?_⟩
    refine callF_of Tryz.c50 ?_
    simp only [evA, evB, evC, forall_const, implies_true, initE, stepF, D.clean, mvF, moF, tkF, shF, ariF, ciF, catF, scF, ebF, eqF, eqOk, eqPr, enF, notF, ngF, cvF, csF, csbF, lenF, lenSF, ixF, iaF, PX.slot, iaAF, faF, ldF, D.mem, stF, bxF, mkSF, boundF, fldF, mmF2, D.plain, D.isPure, optAll, D.dull, callVF, splice, D.cells, D.one, sets, resT, D.flat, D.flat0, D.simple, Nat.reduceBNe, Nat.reduceLT, reduceIte, Nat.reduceEqDiff, Nat.reduceAdd, Nat.reduceMul, Nat.reduceSub, Nat.reduceLeDiff, Int.reduceToNat, Int.reduceLT, Int.reduceLE, Int.reduceEq, Int.reduceNeg, Int.reduceSub, Int.reduceAdd, Int.reduceMul]
    have hx0 := hxb.1
    have hc : x % 6 = 0 ∨ x % 6 = 1 ∨ x % 6 = 2 ∨ x % 6 = 3 ∨ x % 6 = 4 ∨ x % 6 = 5 := by omega
    have t6 : x.tmod 6 = x % 6 := tmod_nn hx0
    have tm : ∀ y, isByte y → y.tmod 4 = ((y % 4).toNat : Int) ∧ y.tmod 8 = ((y % 8).toNat : Int) := fun y hy => by
      rw [tmod_nn hy.1, tmod_nn hy.1]; omega
    clear hg
    have hstep : mkStep p out x = if out.length = 4 ∨ 0 ≤ idx (fun y : Lay => y.u == [UInt8.ofNat (65 + (x % 6).toNat)]) out then out else out ++ [p.lay (x % 6).toNat] := rfl
    rcases hc with hc | hc | hc | hc | hc | hc
    all_goals
      rw [hc] at t6 hstep
      simp only [Int.reduceToNat, Nat.reduceAdd, UInt8.reduceOfNat] at hstep
      simp only [t6, evA, evB, evC, forall_const, implies_true, initE, stepF, D.clean, mvF, moF, tkF, shF, ariF, ciF, catF, scF, ebF, eqF, eqOk, eqPr, enF, notF, ngF, cvF, csF, csbF, lenF, lenSF, ixF, iaF, PX.slot, iaAF, faF, ldF, D.mem, stF, bxF, mkSF, boundF, fldF, mmF2, D.plain, D.isPure, optAll, D.dull, callVF, splice, D.cells, D.one, sets, resT, D.flat, D.flat0, D.simple, Nat.reduceBNe, Nat.reduceLT, reduceIte, Nat.reduceEqDiff, Nat.reduceAdd, Nat.reduceMul, Nat.reduceSub, Nat.reduceLeDiff, Int.reduceToNat, Int.reduceLT, Int.reduceLE, Int.reduceEq, Int.reduceNeg, Int.reduceSub, Int.reduceAdd, Int.reduceMul, Int.reduceTMod]
      refine ⟨by omega, fun h4 => ?_, fun h4 => ?_⟩
      case refine_2 =>
        rw [if_pos (.inl (by omega))] at hstep
        rw [hstep] at hmk
        refine ⟨by omega, ⟨k + 1, out, by omega, hout, hmk, rfl, rfl⟩, by omega⟩
      refine callF_of (Tryz.c51 _ out (by omega) fun y _ => Tryz.c52 y _) ?_
      simp only [t6, evA, evB, evC, forall_const, implies_true, initE, stepF, D.clean, mvF, moF, tkF, shF, ariF, ciF, catF, scF, ebF, eqF, eqOk, eqPr, enF, notF, ngF, cvF, csF, csbF, lenF, lenSF, ixF, iaF, PX.slot, iaAF, faF, ldF, D.mem, stF, bxF, mkSF, boundF, fldF, mmF2, D.plain, D.isPure, optAll, D.dull, callVF, splice, D.cells, D.one, sets, resT, D.flat, D.flat0, D.simple, Nat.reduceBNe, Nat.reduceLT, reduceIte, Nat.reduceEqDiff, Nat.reduceAdd, Nat.reduceMul, Nat.reduceSub, Nat.reduceLeDiff, Int.reduceToNat, Int.reduceLT, Int.reduceLE, Int.reduceEq, Int.reduceNeg, Int.reduceSub, Int.reduceAdd, Int.reduceMul, Int.reduceTMod]
      refine ⟨fun hin => ?_, fun hin => ?_⟩
      · rw [if_pos (.inr hin)] at hstep
        rw [hstep] at hmk
        refine ⟨by omega, ⟨k + 1, out, by omega, hout, hmk, rfl, rfl⟩, by omega⟩
      · have hcond : ¬ (out.length = 4 ∨ 0 ≤ idx (fun y : Lay => y.u == _) out) := fun h => h.elim (fun h => h4 (by omega)) hin
        rw [if_neg hcond] at hstep
        rw [hstep] at hmk
        refine ⟨by omega, by omega, by simp only [(tm _ hp.a0).1, (tm _ hp.a1).1, (tm _ hp.a2).1, (tm _ hp.a3).1]; exact r4 _, ?_⟩
        simp only [(tm _ hp.a0).1, (tm _ hp.a1).1, (tm _ hp.a2).1, (tm _ hp.a3).1]
        refine callF_of (Tryz.c16 _ (l4 _)) ?_
        simp only [(tm _ hp.b0).2, (tm _ hp.b1).2, (tm _ hp.b2).2, (tm _ hp.b3).2, evA, evB, evC, forall_const, implies_true, initE, stepF, D.clean, mvF, moF, tkF, shF, ariF, ciF, catF, scF, ebF, eqF, eqOk, eqPr, enF, notF, ngF, cvF, csF, csbF, lenF, lenSF, ixF, iaF, PX.slot, iaAF, faF, ldF, D.mem, stF, bxF, mkSF, boundF, fldF, mmF2, D.plain, D.isPure, optAll, D.dull, callVF, splice, D.cells, D.one, sets, resT, D.flat, D.flat0, D.simple, Nat.reduceBNe, Nat.reduceLT, reduceIte, Nat.reduceEqDiff, Nat.reduceAdd, Nat.reduceMul, Nat.reduceSub, Nat.reduceLeDiff, Int.reduceToNat, Int.reduceLT, Int.reduceLE, Int.reduceEq, Int.reduceNeg, Int.reduceSub, Int.reduceAdd, Int.reduceMul]
        have hk1 : k + 1 ≤ p.us.length + 1 := by omega
        have hout1 : (out ++ [p.lay (x % 6).toNat]).length ≤ 4 := by
          rw [List.length_append, List.length_singleton]; omega
        rw [hc] at hout1
        have fit : (out.length + 1) * 48 ≤ 140737488355328 ∧ out.length ≤ 9223372036854775806 ∧ (-9223372036854775808 ≤ (k : Int) + 1 ∧ (k : Int) + 1 ≤ 9223372036854775807) ∧ p.us.length + 1 - ((k : Int) + 1).toNat < p.us.length + 1 - k := by omega
        refine ⟨by decide, fun hb7 => ⟨by decide, r8 _, ?_⟩, fun hb7 => ?_⟩
        · refine callF_of (Tryz.c16 _ (l8 _)) ?_
          simp only [evA, evB, evC, forall_const, implies_true, initE, stepF, D.clean, mvF, moF, tkF, shF, ariF, ciF, catF, scF, ebF, eqF, eqOk, eqPr, enF, notF, ngF, cvF, csF, csbF, lenF, lenSF, ixF, iaF, PX.slot, iaAF, faF, ldF, D.mem, stF, bxF, mkSF, boundF, fldF, mmF2, D.plain, D.isPure, optAll, D.dull, callVF, splice, D.cells, D.one, sets, resT, D.flat, D.flat0, D.simple, Nat.reduceBNe, Nat.reduceLT, reduceIte, Nat.reduceEqDiff, Nat.reduceAdd, Nat.reduceMul, Nat.reduceSub, Nat.reduceLeDiff, Int.reduceToNat, Int.reduceLT, Int.reduceLE, Int.reduceEq, Int.reduceNeg, Int.reduceSub, Int.reduceAdd, Int.reduceMul]
          refine callF_of (Tryz.c25 _ _ (l84 _) (by clear fit hout1 hk1 hcond; omega)) ?_
          simp only [evA, evB, evC, forall_const, implies_true, initE, stepF, D.clean, mvF, moF, tkF, shF, ariF, ciF, catF, scF, ebF, eqF, eqOk, eqPr, enF, notF, ngF, cvF, csF, csbF, lenF, lenSF, ixF, iaF, PX.slot, iaAF, faF, ldF, D.mem, stF, bxF, mkSF, boundF, fldF, mmF2, D.plain, D.isPure, optAll, D.dull, callVF, splice, D.cells, D.one, sets, resT, D.flat, D.flat0, D.simple, Nat.reduceBNe, Nat.reduceLT, reduceIte, Nat.reduceEqDiff, Nat.reduceAdd, Nat.reduceMul, Nat.reduceSub, Nat.reduceLeDiff, Int.reduceToNat, Int.reduceLT, Int.reduceLE, Int.reduceEq, Int.reduceNeg, Int.reduceSub, Int.reduceAdd, Int.reduceMul]
          exact ⟨fit.1, fit.2.1, fit.2.2.1, ⟨k + 1, _, hk1, hout1, hmk, congrArg (Prod.mk 3) (snocL out (p.lay _) ((layOf8 _ _ _ hb7).trans rfl)), rfl⟩, fit.2.2.2⟩
        · exact ⟨fit.1, fit.2.1, fit.2.2.1, ⟨k + 1, _, hk1, hout1, hmk, congrArg (Prod.mk 3) (snocL out (p.lay _) ((layOf7 _ _ _ hb7).trans rfl)), rfl⟩, fit.2.2.2⟩
  · have hke : k = p.us.length + 1 := by omega
    subst hke
    rw [List.drop_of_length_le (by simp)] at hmk
    rw [hmk]; rfl
end Go.Proofs

/-
  SEAT 22: ColumnTexts. Own work.
-/
namespace Go.Proofs
open Go Go.Pi Go.RowKit

theorem ldC_strs {l : List (List UInt8)} {k t : Nat} {N : EP} {E : Env} : ldC false 1 (List.take 1 (List.drop k (strs l))) t N E = (∃ x, l[k]? = some x ∧ N (st1 E t (.str x))) := by
  unfold ldC
  have e0 : List.drop k (strs l) = strs (l.drop k) := by have := rows_drop sD_len k l; rwa [Nat.mul_one] at this
  rw [e0]
  cases h : l[k]? with
  | none =>
    have hk : l.length ≤ k := by simpa using h
    rw [List.drop_eq_nil_of_le hk]; simp [ofCells, rows]
  | some x => rw [drop_cons h]; simp [ofCells, rows, sD, D.one]

theorem Tryz.c15 (l : List (List UInt8)) (hl : l.length ≤ 1000000) : Con Tryz.prog Tryz.L 15 [.sl l.length (strs l), .sl l.length (strs l)] (.bool true) := by
  refine rule15 Tryz.hL rfl rfl rfl ?_
  simp only [pc15, rs15, evA, evB, evC, forall_const, implies_true, initE, stepF, D.clean, mvF, moF, tkF, shF, ariF, ciF, catF, scF, ebF, eqF, eqOk, eqPr, enF, notF, ngF, cvF, csF, csbF, lenF, lenSF, ixF, iaF, PX.slot, iaAF, faF, ldF, D.mem, stF, bxF, mkSF, boundF, fldF, mmF2, D.plain, D.isPure, optAll, D.dull, callVF, splice, D.cells, D.one, sets, resT, D.flat, D.flat0, D.simple, Nat.reduceBNe, Nat.reduceLT, reduceIte, Nat.reduceEqDiff, Nat.reduceAdd, Nat.reduceMul, Nat.reduceSub, Nat.reduceLeDiff, Int.reduceToNat, Int.reduceLT, Int.reduceLE, Int.reduceEq, Int.reduceNeg, Int.reduceSub, Int.reduceAdd, Int.reduceMul]
  refine loopF_of (fun E => ∃ k : Nat, k ≤ l.length ∧ E = [(0, .sl l.length (strs l)), (1, .sl l.length (strs l)), (12, .int .i64 l.length), (13, .int .i64 k)])
    (fun E => match lk E 13 with | .int _ i => l.length - i.toNat | _ => 0) ⟨0, Nat.zero_le _, rfl⟩ ?_
  rintro _ ⟨k, hk, rfl⟩
  simp only [evA, evB, evC, forall_const, implies_true, initE, stepF, D.clean, mvF, moF, tkF, shF, ariF, ciF, catF, scF, ebF, eqF, eqOk, eqPr, enF, notF, ngF, cvF, csF, csbF, lenF, lenSF, ixF, iaF, PX.slot, iaAF, faF, ldF, D.mem, stF, bxF, mkSF, boundF, fldF, mmF2, D.plain, D.isPure, optAll, D.dull, callVF, splice, D.cells, D.one, sets, resT, D.flat, D.flat0, D.simple, Nat.reduceBNe, Nat.reduceLT, reduceIte, Nat.reduceEqDiff, Nat.reduceAdd, Nat.reduceMul, Nat.reduceSub, Nat.reduceLeDiff, Int.reduceToNat, Int.reduceLT, Int.reduceLE, Int.reduceEq, Int.reduceNeg, Int.reduceSub, Int.reduceAdd, Int.reduceMul, ldC_strs]
  intro h1
  have hx : l[k]? = some (l[k]'(by omega)) := List.getElem?_eq_getElem (by omega)
  generalize l[k]'(by omega) = x at hx
  refine ⟨⟨by omega, by rw [strs_length]; omega⟩, x, hx, ⟨by omega, by rw [strs_length]; omega⟩, x, hx, ?_⟩
  simp only [evA, evB, evC, forall_const, implies_true, initE, stepF, D.clean, mvF, moF, tkF, shF, ariF, ciF, catF, scF, ebF, eqF, eqOk, eqPr, enF, notF, ngF, cvF, csF, csbF, lenF, lenSF, ixF, iaF, PX.slot, iaAF, faF, ldF, D.mem, stF, bxF, mkSF, boundF, fldF, mmF2, D.plain, D.isPure, optAll, D.dull, callVF, splice, D.cells, D.one, sets, resT, D.flat, D.flat0, D.simple, Nat.reduceBNe, Nat.reduceLT, reduceIte, Nat.reduceEqDiff, Nat.reduceAdd, Nat.reduceMul, Nat.reduceSub, Nat.reduceLeDiff, Int.reduceToNat, Int.reduceLT, Int.reduceLE, Int.reduceEq, Int.reduceNeg, Int.reduceSub, Int.reduceAdd, Int.reduceMul]
  exact ⟨by omega, ⟨k + 1, by omega, rfl⟩, by omega⟩

theorem idxA_ge {α : Type} {p : α → Bool} : ∀ {l : List α} {k : Nat}, ¬ 0 ≤ idxA p l k → ∀ x ∈ l, p x = false
  | [], _, _ => fun x hx => by cases hx
  | y :: l, k, h => by
    simp only [idxA] at h
    cases hy : p y with
    | true => rw [hy] at h; exact absurd (show (0 : Int) ≤ (k : Int) by omega) h
    | false =>
      rw [hy] at h
      intro x hx
      rcases List.mem_cons.1 hx with rfl | hx
      · exact hy
      · exact idxA_ge h x hx

/-- what is known of the columns of plans -/
structure ColOk (l : List Lay) : Prop where
  len : l.length ≤ 4
  lay : ∀ x ∈ l, ∃ k a b, k < 6 ∧ a < 4 ∧ b < 8 ∧ x = layOf k a b
  nd : (l.map Lay.u).Nodup

theorem mkStep_ok (p : Pl) {out : List Lay} (x : Int) (h : ColOk out) : ColOk (mkStep p out x) := by
  unfold mkStep
  split
  · exact h
  · rename_i hn
    simp only [not_or] at hn
    refine ⟨?_, ?_, ?_⟩
    · rw [List.length_append, List.length_singleton]; have := h.len; omega
    · intro y hy
      rcases List.mem_append.1 hy with hy | hy
      · exact h.lay y hy
      · rw [List.mem_singleton.1 hy]
        exact ⟨_, _, _, by omega, l84 _, l8 _, rfl⟩
    · rw [List.map_append, List.nodup_append]
      refine ⟨h.nd, by simp, ?_⟩
      intro a ha b hb e
      subst e
      simp only [List.map_cons, List.map_nil, List.mem_singleton] at hb
      obtain ⟨y, hy, rfl⟩ := List.mem_map.1 ha
      have := idxA_ge hn.2 y hy
      rw [beq_eq_false_iff_ne] at this
      exact this hb

theorem foldl_ok (p : Pl) : ∀ (l : List Int) (out : List Lay), ColOk out → ColOk (l.foldl (mkStep p) out)
  | [], _, h => h
  | x :: l, _, h => foldl_ok p l _ (mkStep_ok p x h)

theorem Pl.make_ok (p : Pl) : ColOk p.make := foldl_ok p _ _ ⟨Nat.zero_le _, fun x h => (by cases h), List.nodup_nil⟩
theorem Pl.make_pos (p : Pl) : 0 < p.make.length := by
  unfold Pl.make
  rw [List.foldl_append]
  simp only [List.foldl_cons, List.foldl_nil]
  generalize List.foldl (mkStep p) [] p.us = out
  unfold mkStep
  split
  · rename_i h
    rcases h with h | h
    · omega
    · cases out with
      | nil => simp [idx, idxA] at h
      | cons a l => simp
  · simp

theorem ColOk.small {l : List Lay} (h : ColOk l) : ∀ x ∈ l, x.small := fun x hx => by
  obtain ⟨k, a, b, _, _, _, rfl⟩ := h.lay x hx; exact layOf_small k a b
theorem ColOk.layOk {l : List Lay} (h : ColOk l) : ∀ x ∈ l, LayOk x := fun x hx => by
  obtain ⟨k, a, b, h1, h2, h3, rfl⟩ := h.lay x hx; exact layOf_ok k a b h1 h2 h3
theorem ColOk.check {l : List Lay} (h : ColOk l) (h0 : 0 < l.length) : Con Tryz.prog Tryz.L 45 [.sl l.length (lays l)] (.int .i64 0) :=
  Tryz.c45 l h0 (by have := h.len; omega) h.nd h.layOk

theorem Tryz.c3 (p : Pl) (hp : p.ok) : Con Tryz.prog Tryz.L 3 [p.d] (.bool true) := by
  refine rule3 Tryz.hL (fun q hq => by simp [PC.backs, pc3] at hq; subst hq; exact back53) rfl rfl rfl ?_
  simp only [pc3, rs3, Pl.d, evA, evB, evC, forall_const, implies_true, initE, stepF, D.clean, mvF, moF, tkF, shF, ariF, ciF, catF, scF, ebF, eqF, eqOk, eqPr, enF, notF, ngF, cvF, csF, csbF, lenF, lenSF, ixF, iaF, PX.slot, iaAF, faF, ldF, D.mem, stF, bxF, mkSF, boundF, fldF, mmF2, D.plain, D.isPure, optAll, D.dull, callVF, splice, D.cells, D.one, sets, resT, D.flat, D.flat0, D.simple, Nat.reduceBNe, Nat.reduceLT, reduceIte, Nat.reduceEqDiff, Nat.reduceAdd, Nat.reduceMul, Nat.reduceSub, Nat.reduceLeDiff, Int.reduceToNat, Int.reduceLT, Int.reduceLE, Int.reduceEq, Int.reduceNeg, Int.reduceSub, Int.reduceAdd, Int.reduceMul]
  refine callF_of Tryz.c11 ?_
  simp only [evA, evB, evC, forall_const, implies_true, initE, stepF, D.clean, mvF, moF, tkF, shF, ariF, ciF, catF, scF, ebF, eqF, eqOk, eqPr, enF, notF, ngF, cvF, csF, csbF, lenF, lenSF, ixF, iaF, PX.slot, iaAF, faF, ldF, D.mem, stF, bxF, mkSF, boundF, fldF, mmF2, D.plain, D.isPure, optAll, D.dull, callVF, splice, D.cells, D.one, sets, resT, D.flat, D.flat0, D.simple, Nat.reduceBNe, Nat.reduceLT, reduceIte, Nat.reduceEqDiff, Nat.reduceAdd, Nat.reduceMul, Nat.reduceSub, Nat.reduceLeDiff, Int.reduceToNat, Int.reduceLT, Int.reduceLE, Int.reduceEq, Int.reduceNeg, Int.reduceSub, Int.reduceAdd, Int.reduceMul]
  refine callF_of (Tryz.c12 p hp) ?_
  simp only [evA, evB, evC, forall_const, implies_true, initE, stepF, D.clean, mvF, moF, tkF, shF, ariF, ciF, catF, scF, ebF, eqF, eqOk, eqPr, enF, notF, ngF, cvF, csF, csbF, lenF, lenSF, ixF, iaF, PX.slot, iaAF, faF, ldF, D.mem, stF, bxF, mkSF, boundF, fldF, mmF2, D.plain, D.isPure, optAll, D.dull, callVF, splice, D.cells, D.one, sets, resT, D.flat, D.flat0, D.simple, Nat.reduceBNe, Nat.reduceLT, reduceIte, Nat.reduceEqDiff, Nat.reduceAdd, Nat.reduceMul, Nat.reduceSub, Nat.reduceLeDiff, Int.reduceToNat, Int.reduceLT, Int.reduceLE, Int.reduceEq, Int.reduceNeg, Int.reduceSub, Int.reduceAdd, Int.reduceMul]
  have hok := p.make_ok
  have hpos := p.make_pos
  have hlen := hok.len
  have hsm := hok.small
  refine callF_of (Tryz.c13 p.make hsm (by omega) (hok.check hpos)) ?_
  simp only [evA, evB, evC, forall_const, implies_true, initE, stepF, D.clean, mvF, moF, tkF, shF, ariF, ciF, catF, scF, ebF, eqF, eqOk, eqPr, enF, notF, ngF, cvF, csF, csbF, lenF, lenSF, ixF, iaF, PX.slot, iaAF, faF, ldF, D.mem, stF, bxF, mkSF, boundF, fldF, mmF2, D.plain, D.isPure, optAll, D.dull, callVF, splice, D.cells, D.one, sets, resT, D.flat, D.flat0, D.simple, Nat.reduceBNe, Nat.reduceLT, reduceIte, Nat.reduceEqDiff, Nat.reduceAdd, Nat.reduceMul, Nat.reduceSub, Nat.reduceLeDiff, Int.reduceToNat, Int.reduceLT, Int.reduceLE, Int.reduceEq, Int.reduceNeg, Int.reduceSub, Int.reduceAdd, Int.reduceMul]
  refine callF_of (Tryz.c14 _ _) ?_
  simp only [evA, evB, evC, forall_const, implies_true, initE, stepF, D.clean, mvF, moF, tkF, shF, ariF, ciF, catF, scF, ebF, eqF, eqOk, eqPr, enF, notF, ngF, cvF, csF, csbF, lenF, lenSF, ixF, iaF, PX.slot, iaAF, faF, ldF, D.mem, stF, bxF, mkSF, boundF, fldF, mmF2, D.plain, D.isPure, optAll, D.dull, callVF, splice, D.cells, D.one, sets, resT, D.flat, D.flat0, D.simple, Nat.reduceBNe, Nat.reduceLT, reduceIte, Nat.reduceEqDiff, Nat.reduceAdd, Nat.reduceMul, Nat.reduceSub, Nat.reduceLeDiff, Int.reduceToNat, Int.reduceLT, Int.reduceLE, Int.reduceEq, Int.reduceNeg, Int.reduceSub, Int.reduceAdd, Int.reduceMul]
  generalize p.make = l at hok hpos hlen hsm
  refine rfnF_of (fun k E => ∃ hk : k ≤ l.length, E = [(4, .sl l.length (strs (l.reverse.map Lay.line))), (5, .int .i64 0), (6, .gbox 1000006), (20, .clo 53 [.pt [.sl l.length (lays l)]]), (1000006, .own true 9 k (strs ((l.reverse.map Lay.line).take k)))])
    (by rw [rows_length Lay.d_len]) ⟨Nat.zero_le _, rfl⟩ (fun k E1 hE => by obtain ⟨_, rfl⟩ := hE; rfl) ?_ ?_
  · rintro _ ⟨_, rfl⟩
    simp only [evA, evB, evC, forall_const, implies_true, initE, stepF, D.clean, mvF, moF, tkF, shF, ariF, ciF, catF, scF, ebF, eqF, eqOk, eqPr, enF, notF, ngF, cvF, csF, csbF, lenF, lenSF, ixF, iaF, PX.slot, iaAF, faF, ldF, D.mem, stF, bxF, mkSF, boundF, fldF, mmF2, D.plain, D.isPure, optAll, D.dull, callVF, splice, D.cells, D.one, sets, resT, D.flat, D.flat0, D.simple, Nat.reduceBNe, Nat.reduceLT, reduceIte, Nat.reduceEqDiff, Nat.reduceAdd, Nat.reduceMul, Nat.reduceSub, Nat.reduceLeDiff, Int.reduceToNat, Int.reduceLT, Int.reduceLE, Int.reduceEq, Int.reduceNeg, Int.reduceSub, Int.reduceAdd, Int.reduceMul]
    rw [List.take_of_length_le (by simp)]
    have h15 := Tryz.c15 (l.reverse.map Lay.line) (by simp; omega)
    rw [show (l.reverse.map Lay.line).length = l.length by simp] at h15
    refine callF_of h15 ?_
    simp only [evA, evB, evC, forall_const, implies_true, initE, stepF, D.clean, mvF, moF, tkF, shF, ariF, ciF, catF, scF, ebF, eqF, eqOk, eqPr, enF, notF, ngF, cvF, csF, csbF, lenF, lenSF, ixF, iaF, PX.slot, iaAF, faF, ldF, D.mem, stF, bxF, mkSF, boundF, fldF, mmF2, D.plain, D.isPure, optAll, D.dull, callVF, splice, D.cells, D.one, sets, resT, D.flat, D.flat0, D.simple, Nat.reduceBNe, Nat.reduceLT, reduceIte, Nat.reduceEqDiff, Nat.reduceAdd, Nat.reduceMul, Nat.reduceSub, Nat.reduceLeDiff, Int.reduceToNat, Int.reduceLT, Int.reduceLE, Int.reduceEq, Int.reduceNeg, Int.reduceSub, Int.reduceAdd, Int.reduceMul]
  · rintro k _ hkm ⟨hk, rfl⟩
    have hx : l[l.length - 1 - k]? = some (l[l.length - 1 - k]'(by omega)) := List.getElem?_eq_getElem (by omega)
    have hr : (l.reverse.map Lay.line).take (k + 1) = (l.reverse.map Lay.line).take k ++ [(l[l.length - 1 - k]'(by omega)).line] := by
      rw [List.take_succ_eq_append_getElem (by simpa using hkm)]
      simp [List.getElem_reverse]
    have hsm := hsm _ (List.mem_of_getElem? hx)
    generalize l[l.length - 1 - k]'(by omega) = x at hx hr hsm
    refine ⟨_, ofCells_rows Lay.d_len hx, rfl, ?_⟩
    obtain ⟨h1, h2, h3⟩ := hsm
    simp only [Lay.d, evA, evB, evC, forall_const, implies_true, initE, stepF, D.clean, mvF, moF, tkF, shF, ariF, ciF, catF, scF, ebF, eqF, eqOk, eqPr, enF, notF, ngF, cvF, csF, csbF, lenF, lenSF, ixF, iaF, PX.slot, iaAF, faF, ldF, D.mem, stF, bxF, mkSF, boundF, fldF, mmF2, D.plain, D.isPure, optAll, D.dull, callVF, splice, D.cells, D.one, sets, resT, D.flat, D.flat0, D.simple, Nat.reduceBNe, Nat.reduceLT, reduceIte, Nat.reduceEqDiff, Nat.reduceAdd, Nat.reduceMul, Nat.reduceSub, Nat.reduceLeDiff, Int.reduceToNat, Int.reduceLT, Int.reduceLE, Int.reduceEq, Int.reduceNeg, Int.reduceSub, Int.reduceAdd, Int.reduceMul]
    refine ⟨fun hb => ?_, fun hb => ?_⟩
    all_goals
      simp only [List.length_append, List.length_cons, List.length_nil]
      refine ⟨by omega, by omega, by omega, by omega, by omega, by omega, by omega, ?_⟩
      rw [hr, strs_snoc]
      simp [Lay.line, hb]
end Go.Proofs

/-
  SEAT 22: relations. Own work.
-/
namespace Go.Proofs
open Go Go.Pi Go.RowKit

theorem ldC_byD {l : List UInt8} {k t : Nat} {N : EP} {E : Env} : ldC false 1 (List.take 1 (List.drop k (byD l))) t N E = (∃ x, l[k]? = some x ∧ N (st1 E t (.int .u8 x.toNat))) := by
  unfold ldC
  have e0 : List.drop k (byD l) = byD (l.drop k) := by simp [byD]
  rw [e0]
  cases h : l[k]? with
  | none =>
    have hk : l.length ≤ k := by simpa using h
    rw [List.drop_eq_nil_of_le hk]; simp [ofCells, byD]
  | some x => rw [drop_cons h]; simp [ofCells, byD, D.one]

/-- a letter of a name: its first, or another one -/
def okP (k n : Nat) : Prop := (97 ≤ n ∧ n ≤ 122) ∨ (65 ≤ n ∧ n ≤ 90) ∨ (k ≠ 0 ∧ ((48 ≤ n ∧ n ≤ 57) ∨ n = 95))
instance (k n : Nat) : Decidable (okP k n) := by unfold okP; infer_instance
def nmA : List UInt8 → Nat → Bool
  | [], _ => true
  | c :: r, k => decide (okP k c.toNat) && nmA r (k + 1)
def nm (s : List UInt8) : Bool := s != [] && decide (s.length ≤ 32) && nmA s 0

set_option maxHeartbeats 2000000 in
theorem Tryz.c68g (s : List UInt8) : Con Tryz.prog Tryz.L 68 [.str s] (.bool (nm s)) := by
  refine rule68 Tryz.hL rfl rfl rfl ?_
  simp only [pc68, rs68, evA, evB, evC, forall_const, implies_true, initE, stepF, D.clean, mvF, moF, tkF, shF, ariF, ciF, catF, scF, ebF, eqF, eqOk, eqPr, enF, notF, ngF, cvF, csF, csbF, lenF, lenSF, ixF, iaF, PX.slot, iaAF, faF, ldF, D.mem, stF, bxF, mkSF, boundF, fldF, mmF2, D.plain, D.isPure, optAll, D.dull, callVF, splice, D.cells, D.one, sets, resT, D.flat, D.flat0, D.simple, Nat.reduceBNe, Nat.reduceLT, reduceIte, Nat.reduceEqDiff, Nat.reduceAdd, Nat.reduceMul, Nat.reduceSub, Nat.reduceLeDiff, Int.reduceToNat, Int.reduceLT, Int.reduceLE, Int.reduceEq, Int.reduceNeg, Int.reduceSub, Int.reduceAdd, Int.reduceMul]
  refine ⟨fun h0 => ⟨fun h1 => by simp [nm]; omega, fun h1 => ?_⟩, fun h => by simp [nm, h]⟩
  have hnm : nm s = nmA s 0 := by simp [nm, h0]; omega
  refine loopF_of (fun E => ∃ k : Nat, k ≤ s.length ∧ nm s = nmA (s.drop k) k ∧ E = [(15, D.sl s.length (byD s)), (16, D.int IntKind.i64 s.length), (17, D.int IntKind.i64 k)])
    (fun E => match lk E 17 with | .int _ i => s.length - i.toNat | _ => 0) ⟨0, Nat.zero_le _, hnm, rfl⟩ ?_
  rintro _ ⟨k, hk, hi, rfl⟩
  simp only [evA, evB, evC, forall_const, implies_true, initE, stepF, D.clean, mvF, moF, tkF, shF, ariF, ciF, catF, scF, ebF, eqF, eqOk, eqPr, enF, notF, ngF, cvF, csF, csbF, lenF, lenSF, ixF, iaF, PX.slot, iaAF, faF, ldF, D.mem, stF, bxF, mkSF, boundF, fldF, mmF2, D.plain, D.isPure, optAll, D.dull, callVF, splice, D.cells, D.one, sets, resT, D.flat, D.flat0, D.simple, Nat.reduceBNe, Nat.reduceLT, reduceIte, Nat.reduceEqDiff, Nat.reduceAdd, Nat.reduceMul, Nat.reduceSub, Nat.reduceLeDiff, Int.reduceToNat, Int.reduceLT, Int.reduceLE, Int.reduceEq, Int.reduceNeg, Int.reduceSub, Int.reduceAdd, Int.reduceMul, ldC_byD]
  refine ⟨fun h2 => ?_, fun h2 => ?_⟩
  · have hx : s[k]? = some (s[k]'(by omega)) := List.getElem?_eq_getElem (by omega)
    generalize s[k]'(by omega) = x at hx
    rw [drop_cons hx] at hi
    simp only [nmA] at hi
    refine ⟨⟨by omega, by omega, by simp [byD]; omega⟩, x, hx, ?_⟩
    have yes : okP k x.toNat → nm s = nmA (s.drop (k + 1)) (k + 1) := fun h => by rw [hi, decide_eq_true h]; rfl
    have no : ¬okP k x.toNat → false = nm s := fun h => by rw [hi, decide_eq_false h]; rfl
    unfold okP at yes no
    clear hi hx hnm
    generalize x.toNat = n at yes no
    have fin : (97 ≤ n ∧ n ≤ 122 ∨ 65 ≤ n ∧ n ≤ 90 ∨ k ≠ 0 ∧ (48 ≤ n ∧ n ≤ 57 ∨ n = 95)) → (-9223372036854775808 ≤ (k : Int) + 1 ∧ (k : Int) + 1 ≤ 9223372036854775807) ∧
        (∃ k1 : Nat, k1 ≤ s.length ∧ nm s = nmA (List.drop k1 s) k1 ∧ (17, D.int IntKind.i64 ((k : Int) + 1)) = (17, D.int IntKind.i64 k1)) ∧ s.length - ((k : Int) + 1).toNat < s.length - k := fun h => ⟨by omega, ⟨k + 1, by omega, yes h, rfl⟩, by omega⟩
    clear yes
    repeat' first
      | intro _
      | exact no (by omega)
      | exact fin (by omega)
      | apply And.intro
  · have : k = s.length := by omega
    subst this
    rw [hi]; simp [nmA]
end Go.Proofs

/-
  SEAT 22: relations: Check, the first one with a property, Consistent. Own work.
-/
namespace Go.Proofs
open Go Go.Pi Go.RowKit

/-- a relation -/
structure Rl where
  k : Int
  u : List UInt8
  o : List UInt8
def Rl.d (x : Rl) : List D := [.int .i64 x.k, .str x.u, .str x.o]
abbrev rls (l : List Rl) : List D := rows Rl.d l
theorem Rl.d_len (x : Rl) : x.d.length = 3 := rfl

theorem ldC_rls {l : List Rl} {k t : Nat} {N : EP} {E : Env} : ldC true 3 (List.take 3 (List.drop (k * 3) (rls l))) t N E = (∃ x, l[k]? = some x ∧ N (st1 E t (.agg x.d))) := by
  unfold ldC
  cases h : l[k]? with
  | none =>
    have hk : l.length ≤ k := by simpa using h
    have e : List.take 3 (List.drop (k * 3) (rls l)) = [] := by rw [List.drop_eq_nil_of_le (by rw [rows_length Rl.d_len]; omega)]; rfl
    rw [e]; simp [ofCells]
  | some x =>
    obtain ⟨r, e⟩ := rows_at Rl.d_len h
    have e2 : List.take 3 (List.drop (k * 3) (rls l)) = x.d := by rw [e]; rfl
    rw [e2]
    simp [ofCells, Rl.d]

theorem Tryz.c31 {f : Nat} {caps : List D} (p : Rl → Bool) (l : List Rl) (hl : l.length ≤ 1000) (h : ∀ x ∈ l, Con Tryz.prog Tryz.L f ([.agg x.d] ++ caps) (.bool (p x))) :
    Con Tryz.prog Tryz.L 31 [.sl l.length (rls l), .clo f caps] (.int .i64 (idx p l)) := by
  refine rule31 Tryz.hL rfl rfl rfl ?_
  simp only [pc31, rs31, evA, evB, evC, forall_const, implies_true, initE, stepF, D.clean, mvF, moF, tkF, shF, ariF, ciF, catF, scF, ebF, eqF, eqOk, eqPr, enF, notF, ngF, cvF, csF, csbF, lenF, lenSF, ixF, iaF, PX.slot, iaAF, faF, ldF, D.mem, stF, bxF, mkSF, boundF, fldF, mmF2, D.plain, D.isPure, optAll, D.dull, callVF, splice, D.cells, D.one, sets, resT, D.flat, D.flat0, D.simple, Nat.reduceBNe, Nat.reduceLT, reduceIte, Nat.reduceEqDiff, Nat.reduceAdd, Nat.reduceMul, Nat.reduceSub, Nat.reduceLeDiff, Int.reduceToNat, Int.reduceLT, Int.reduceLE, Int.reduceEq, Int.reduceNeg, Int.reduceSub, Int.reduceAdd, Int.reduceMul]
  refine loopF_of (fun E => ∃ k : Nat, k ≤ l.length ∧ idx p l = idxA p (l.drop k) k ∧ E = [(0, .sl l.length (rls l)), (1, .clo f caps), (7, .int .i64 l.length), (8, .int .i64 k)])
    (fun E => match lk E 8 with | .int _ i => l.length - i.toNat | _ => 0) ⟨0, Nat.zero_le _, rfl, rfl⟩ ?_
  rintro _ ⟨k, hk, hi, rfl⟩
  simp only [evA, evB, evC, forall_const, implies_true, initE, stepF, D.clean, mvF, moF, tkF, shF, ariF, ciF, catF, scF, ebF, eqF, eqOk, eqPr, enF, notF, ngF, cvF, csF, csbF, lenF, lenSF, ixF, iaF, PX.slot, iaAF, faF, ldF, D.mem, stF, bxF, mkSF, boundF, fldF, mmF2, D.plain, D.isPure, optAll, D.dull, callVF, splice, D.cells, D.one, sets, resT, D.flat, D.flat0, D.simple, Nat.reduceBNe, Nat.reduceLT, reduceIte, Nat.reduceEqDiff, Nat.reduceAdd, Nat.reduceMul, Nat.reduceSub, Nat.reduceLeDiff, Int.reduceToNat, Int.reduceLT, Int.reduceLE, Int.reduceEq, Int.reduceNeg, Int.reduceSub, Int.reduceAdd, Int.reduceMul, ldC_rls]
  refine ⟨fun h1 => ?_, fun h1 => ?_⟩
  · have hx : l[k]? = some (l[k]'(by omega)) := List.getElem?_eq_getElem (by omega)
    generalize l[k]'(by omega) = x at hx
    have hd := drop_cons hx
    refine ⟨⟨by omega, by rw [rows_length Rl.d_len]; omega⟩, x, hx, ?_⟩
    refine callF_of (h x (List.mem_of_getElem? hx)) ?_
    simp only [evA, evB, evC, forall_const, implies_true, initE, stepF, D.clean, mvF, moF, tkF, shF, ariF, ciF, catF, scF, ebF, eqF, eqOk, eqPr, enF, notF, ngF, cvF, csF, csbF, lenF, lenSF, ixF, iaF, PX.slot, iaAF, faF, ldF, D.mem, stF, bxF, mkSF, boundF, fldF, mmF2, D.plain, D.isPure, optAll, D.dull, callVF, splice, D.cells, D.one, sets, resT, D.flat, D.flat0, D.simple, Nat.reduceBNe, Nat.reduceLT, reduceIte, Nat.reduceEqDiff, Nat.reduceAdd, Nat.reduceMul, Nat.reduceSub, Nat.reduceLeDiff, Int.reduceToNat, Int.reduceLT, Int.reduceLE, Int.reduceEq, Int.reduceNeg, Int.reduceSub, Int.reduceAdd, Int.reduceMul]
    rw [hd] at hi
    simp only [idxA] at hi
    cases hp : p x with
    | true =>
      simp only [evA, evB, evC, forall_const, implies_true, initE, stepF, D.clean, mvF, moF, tkF, shF, ariF, ciF, catF, scF, ebF, eqF, eqOk, eqPr, enF, notF, ngF, cvF, csF, csbF, lenF, lenSF, ixF, iaF, PX.slot, iaAF, faF, ldF, D.mem, stF, bxF, mkSF, boundF, fldF, mmF2, D.plain, D.isPure, optAll, D.dull, callVF, splice, D.cells, D.one, sets, resT, D.flat, D.flat0, D.simple, Nat.reduceBNe, Nat.reduceLT, reduceIte, Nat.reduceEqDiff, Nat.reduceAdd, Nat.reduceMul, Nat.reduceSub, Nat.reduceLeDiff, Int.reduceToNat, Int.reduceLT, Int.reduceLE, Int.reduceEq, Int.reduceNeg, Int.reduceSub, Int.reduceAdd, Int.reduceMul]
      rw [hi, hp]; rfl
    | false =>
      simp only [evA, evB, evC, forall_const, implies_true, initE, stepF, D.clean, mvF, moF, tkF, shF, ariF, ciF, catF, scF, ebF, eqF, eqOk, eqPr, enF, notF, ngF, cvF, csF, csbF, lenF, lenSF, ixF, iaF, PX.slot, iaAF, faF, ldF, D.mem, stF, bxF, mkSF, boundF, fldF, mmF2, D.plain, D.isPure, optAll, D.dull, callVF, splice, D.cells, D.one, sets, resT, D.flat, D.flat0, D.simple, Nat.reduceBNe, Nat.reduceLT, reduceIte, Nat.reduceEqDiff, Nat.reduceAdd, Nat.reduceMul, Nat.reduceSub, Nat.reduceLeDiff, Int.reduceToNat, Int.reduceLT, Int.reduceLE, Int.reduceEq, Int.reduceNeg, Int.reduceSub, Int.reduceAdd, Int.reduceMul]
      have hi2 : idx p l = idxA p (l.drop (k + 1)) (k + 1) := by rw [hi, hp]; rfl
      refine ⟨by omega, ⟨k + 1, by omega, hi2, rfl⟩, by omega⟩
  · have : k = l.length := by omega
    subst this
    rw [hi]; simp [idxA]

theorem Tryz.c27 {f : Nat} {caps : List D} (p : Rl → Bool) (l : List Rl) (hl : l.length ≤ 1000) (h : ∀ x ∈ l, Con Tryz.prog Tryz.L f ([.agg x.d] ++ caps) (.bool (p x))) :
    Con Tryz.prog Tryz.L 27 [.sl l.length (rls l), .clo f caps] (.bool (dB (0 ≤ idx p l))) := by
  refine rule27 Tryz.hL rfl rfl rfl ?_
  simp only [pc27, rs27, evA, evB, evC, forall_const, implies_true, initE, stepF, D.clean, mvF, moF, tkF, shF, ariF, ciF, catF, scF, ebF, eqF, eqOk, eqPr, enF, notF, ngF, cvF, csF, csbF, lenF, lenSF, ixF, iaF, PX.slot, iaAF, faF, ldF, D.mem, stF, bxF, mkSF, boundF, fldF, mmF2, D.plain, D.isPure, optAll, D.dull, callVF, splice, D.cells, D.one, sets, resT, D.flat, D.flat0, D.simple, Nat.reduceBNe, Nat.reduceLT, reduceIte, Nat.reduceEqDiff, Nat.reduceAdd, Nat.reduceMul, Nat.reduceSub, Nat.reduceLeDiff, Int.reduceToNat, Int.reduceLT, Int.reduceLE, Int.reduceEq, Int.reduceNeg, Int.reduceSub, Int.reduceAdd, Int.reduceMul]
  refine callF_of (Tryz.c31 p l hl h) ?_
  simp only [evA, evB, evC, forall_const, implies_true, initE, stepF, D.clean, mvF, moF, tkF, shF, ariF, ciF, catF, scF, ebF, eqF, eqOk, eqPr, enF, notF, ngF, cvF, csF, csbF, lenF, lenSF, ixF, iaF, PX.slot, iaAF, faF, ldF, D.mem, stF, bxF, mkSF, boundF, fldF, mmF2, D.plain, D.isPure, optAll, D.dull, callVF, splice, D.cells, D.one, sets, resT, D.flat, D.flat0, D.simple, Nat.reduceBNe, Nat.reduceLT, reduceIte, Nat.reduceEqDiff, Nat.reduceAdd, Nat.reduceMul, Nat.reduceSub, Nat.reduceLeDiff, Int.reduceToNat, Int.reduceLT, Int.reduceLE, Int.reduceEq, Int.reduceNeg, Int.reduceSub, Int.reduceAdd, Int.reduceMul]

def Rl.long (x : Rl) : Bool := decide (40 < x.u.length) || decide (40 < x.o.length)
theorem Tryz.c28 (x : Rl) : Con Tryz.prog Tryz.L 28 ([.agg x.d] ++ []) (.bool x.long) := by
  refine rule28 Tryz.hL rfl rfl rfl ?_
  simp only [pc28, rs28, Rl.d, evA, evB, evC, forall_const, implies_true, initE, stepF, D.clean, mvF, moF, tkF, shF, ariF, ciF, catF, scF, ebF, eqF, eqOk, eqPr, enF, notF, ngF, cvF, csF, csbF, lenF, lenSF, ixF, iaF, PX.slot, iaAF, faF, ldF, D.mem, stF, bxF, mkSF, boundF, fldF, mmF2, D.plain, D.isPure, optAll, D.dull, callVF, splice, D.cells, D.one, sets, resT, D.flat, D.flat0, D.simple, Nat.reduceBNe, Nat.reduceLT, reduceIte, Nat.reduceEqDiff, Nat.reduceAdd, Nat.reduceMul, Nat.reduceSub, Nat.reduceLeDiff, Int.reduceToNat, Int.reduceLT, Int.reduceLE, Int.reduceEq, Int.reduceNeg, Int.reduceSub, Int.reduceAdd, Int.reduceMul]
  refine ⟨fun h => ?_, fun h => ?_⟩
  · rw [Bool.eq_iff_iff, dB_iff]; simp [Rl.long]; omega
  · simp [Rl.long]; omega

/-- relation.Check -/
def Rl.chk (x : Rl) : Int := if x.k < 1 ∨ 4 < x.k then 12 else if nm x.u = false ∨ nm x.o = false then 8 else if x.u = x.o then 14 else 0
theorem Tryz.c30 (x : Rl) : Con Tryz.prog Tryz.L 30 [.agg x.d] (.int .i64 x.chk) := by
  refine rule30 Tryz.hL rfl rfl rfl ?_
  simp only [pc30, rs30, Rl.d, evA, evB, evC, forall_const, implies_true, initE, stepF, D.clean, mvF, moF, tkF, shF, ariF, ciF, catF, scF, ebF, eqF, eqOk, eqPr, enF, notF, ngF, cvF, csF, csbF, lenF, lenSF, ixF, iaF, PX.slot, iaAF, faF, ldF, D.mem, stF, bxF, mkSF, boundF, fldF, mmF2, D.plain, D.isPure, optAll, D.dull, callVF, splice, D.cells, D.one, sets, resT, D.flat, D.flat0, D.simple, Nat.reduceBNe, Nat.reduceLT, reduceIte, Nat.reduceEqDiff, Nat.reduceAdd, Nat.reduceMul, Nat.reduceSub, Nat.reduceLeDiff, Int.reduceToNat, Int.reduceLT, Int.reduceLE, Int.reduceEq, Int.reduceNeg, Int.reduceSub, Int.reduceAdd, Int.reduceMul]
  refine ⟨fun h1 => ⟨fun h2 => by rw [Rl.chk, if_pos (Or.inr h2)], fun h2 => ?_⟩, fun h1 => by rw [Rl.chk, if_pos (Or.inl h1)]⟩
  have e0 : x.chk = if nm x.u = false ∨ nm x.o = false then 8 else if x.u = x.o then 14 else 0 := by rw [Rl.chk, if_neg (by omega)]
  refine callF_of (Tryz.c68g x.u) ?_
  cases hu : nm x.u with
  | false =>
    simp only [evA, evB, evC, forall_const, implies_true, initE, stepF, D.clean, mvF, moF, tkF, shF, ariF, ciF, catF, scF, ebF, eqF, eqOk, eqPr, enF, notF, ngF, cvF, csF, csbF, lenF, lenSF, ixF, iaF, PX.slot, iaAF, faF, ldF, D.mem, stF, bxF, mkSF, boundF, fldF, mmF2, D.plain, D.isPure, optAll, D.dull, callVF, splice, D.cells, D.one, sets, resT, D.flat, D.flat0, D.simple, Nat.reduceBNe, Nat.reduceLT, reduceIte, Nat.reduceEqDiff, Nat.reduceAdd, Nat.reduceMul, Nat.reduceSub, Nat.reduceLeDiff, Int.reduceToNat, Int.reduceLT, Int.reduceLE, Int.reduceEq, Int.reduceNeg, Int.reduceSub, Int.reduceAdd, Int.reduceMul]
    rw [e0, if_pos (Or.inl hu)]
  | true =>
    simp only [evA, evB, evC, forall_const, implies_true, initE, stepF, D.clean, mvF, moF, tkF, shF, ariF, ciF, catF, scF, ebF, eqF, eqOk, eqPr, enF, notF, ngF, cvF, csF, csbF, lenF, lenSF, ixF, iaF, PX.slot, iaAF, faF, ldF, D.mem, stF, bxF, mkSF, boundF, fldF, mmF2, D.plain, D.isPure, optAll, D.dull, callVF, splice, D.cells, D.one, sets, resT, D.flat, D.flat0, D.simple, Nat.reduceBNe, Nat.reduceLT, reduceIte, Nat.reduceEqDiff, Nat.reduceAdd, Nat.reduceMul, Nat.reduceSub, Nat.reduceLeDiff, Int.reduceToNat, Int.reduceLT, Int.reduceLE, Int.reduceEq, Int.reduceNeg, Int.reduceSub, Int.reduceAdd, Int.reduceMul]
    refine callF_of (Tryz.c68g x.o) ?_
    cases ho : nm x.o with
    | false =>
      simp only [evA, evB, evC, forall_const, implies_true, initE, stepF, D.clean, mvF, moF, tkF, shF, ariF, ciF, catF, scF, ebF, eqF, eqOk, eqPr, enF, notF, ngF, cvF, csF, csbF, lenF, lenSF, ixF, iaF, PX.slot, iaAF, faF, ldF, D.mem, stF, bxF, mkSF, boundF, fldF, mmF2, D.plain, D.isPure, optAll, D.dull, callVF, splice, D.cells, D.one, sets, resT, D.flat, D.flat0, D.simple, Nat.reduceBNe, Nat.reduceLT, reduceIte, Nat.reduceEqDiff, Nat.reduceAdd, Nat.reduceMul, Nat.reduceSub, Nat.reduceLeDiff, Int.reduceToNat, Int.reduceLT, Int.reduceLE, Int.reduceEq, Int.reduceNeg, Int.reduceSub, Int.reduceAdd, Int.reduceMul]
      rw [e0, if_pos (Or.inr ho)]
    | true =>
      simp only [evA, evB, evC, forall_const, implies_true, initE, stepF, D.clean, mvF, moF, tkF, shF, ariF, ciF, catF, scF, ebF, eqF, eqOk, eqPr, enF, notF, ngF, cvF, csF, csbF, lenF, lenSF, ixF, iaF, PX.slot, iaAF, faF, ldF, D.mem, stF, bxF, mkSF, boundF, fldF, mmF2, D.plain, D.isPure, optAll, D.dull, callVF, splice, D.cells, D.one, sets, resT, D.flat, D.flat0, D.simple, Nat.reduceBNe, Nat.reduceLT, reduceIte, Nat.reduceEqDiff, Nat.reduceAdd, Nat.reduceMul, Nat.reduceSub, Nat.reduceLeDiff, Int.reduceToNat, Int.reduceLT, Int.reduceLE, Int.reduceEq, Int.reduceNeg, Int.reduceSub, Int.reduceAdd, Int.reduceMul]
      rw [hu, ho] at e0
      rw [if_neg (by simp)] at e0
      refine ⟨fun h => ?_, fun h => ?_⟩
      · rw [e0]; simp_all
      · rw [e0]; simp_all

theorem Tryz.c59 (x : Lay) (u : List UInt8) : Con Tryz.prog Tryz.L 59 ([.agg x.d] ++ [.pt [.str u]]) (.bool (x.u == u)) := by
  refine rule59 Tryz.hL rfl rfl rfl ?_
  simp only [pc59, rs59, Lay.d, evA, evB, evC, forall_const, implies_true, initE, stepF, D.clean, mvF, moF, tkF, shF, ariF, ciF, catF, scF, ebF, eqF, eqOk, eqPr, enF, notF, ngF, cvF, csF, csbF, lenF, lenSF, ixF, iaF, PX.slot, iaAF, faF, ldF, D.mem, stF, bxF, mkSF, boundF, fldF, mmF2, D.plain, D.isPure, optAll, D.dull, callVF, splice, D.cells, D.one, sets, resT, D.flat, D.flat0, D.simple, Nat.reduceBNe, Nat.reduceLT, reduceIte, Nat.reduceEqDiff, Nat.reduceAdd, Nat.reduceMul, Nat.reduceSub, Nat.reduceLeDiff, Int.reduceToNat, Int.reduceLT, Int.reduceLE, Int.reduceEq, Int.reduceNeg, Int.reduceSub, Int.reduceAdd, Int.reduceMul]
  rw [Bool.eq_iff_iff, dB_iff]; simp

theorem Tryz.c20 (l : List Lay) (u : List UInt8) (hl : l.length ≤ 1000) : Con Tryz.prog Tryz.L 20 [.sl l.length (lays l), .str u] (.int .i64 (idx (fun x => x.u == u) l)) := by
  refine rule20 Tryz.hL rfl rfl rfl ?_
  simp only [pc20, rs20, evA, evB, evC, forall_const, implies_true, initE, stepF, D.clean, mvF, moF, tkF, shF, ariF, ciF, catF, scF, ebF, eqF, eqOk, eqPr, enF, notF, ngF, cvF, csF, csbF, lenF, lenSF, ixF, iaF, PX.slot, iaAF, faF, ldF, D.mem, stF, bxF, mkSF, boundF, fldF, mmF2, D.plain, D.isPure, optAll, D.dull, callVF, splice, D.cells, D.one, sets, resT, D.flat, D.flat0, D.simple, Nat.reduceBNe, Nat.reduceLT, reduceIte, Nat.reduceEqDiff, Nat.reduceAdd, Nat.reduceMul, Nat.reduceSub, Nat.reduceLeDiff, Int.reduceToNat, Int.reduceLT, Int.reduceLE, Int.reduceEq, Int.reduceNeg, Int.reduceSub, Int.reduceAdd, Int.reduceMul]
  refine callF_of (Tryz.c58 _ l hl fun x _ => Tryz.c59 x u) ?_
  simp only [evA, evB, evC, forall_const, implies_true, initE, stepF, D.clean, mvF, moF, tkF, shF, ariF, ciF, catF, scF, ebF, eqF, eqOk, eqPr, enF, notF, ngF, cvF, csF, csbF, lenF, lenSF, ixF, iaF, PX.slot, iaAF, faF, ldF, D.mem, stF, bxF, mkSF, boundF, fldF, mmF2, D.plain, D.isPure, optAll, D.dull, callVF, splice, D.cells, D.one, sets, resT, D.flat, D.flat0, D.simple, Nat.reduceBNe, Nat.reduceLT, reduceIte, Nat.reduceEqDiff, Nat.reduceAdd, Nat.reduceMul, Nat.reduceSub, Nat.reduceLeDiff, Int.reduceToNat, Int.reduceLT, Int.reduceLE, Int.reduceEq, Int.reduceNeg, Int.reduceSub, Int.reduceAdd, Int.reduceMul]

/-- the relation contradicts the column -/
def Rl.bad (l : List Lay) (x : Rl) : Bool := decide (x.k ≠ 4 ∧ 0 ≤ idx (fun y => y.u == x.u) l ∧ 0 ≤ idx (fun y => y.u == x.o) l ∧ idx (fun y => y.u == x.u) l ≤ idx (fun y => y.u == x.o) l)
theorem Tryz.c32 (l : List Lay) (hl : l.length ≤ 1000) (x : Rl) : Con Tryz.prog Tryz.L 32 ([.agg x.d] ++ [.pt [.sl l.length (lays l)]]) (.bool (x.bad l)) := by
  refine rule32 Tryz.hL rfl rfl rfl ?_
  simp only [pc32, rs32, Rl.d, evA, evB, evC, forall_const, implies_true, initE, stepF, D.clean, mvF, moF, tkF, shF, ariF, ciF, catF, scF, ebF, eqF, eqOk, eqPr, enF, notF, ngF, cvF, csF, csbF, lenF, lenSF, ixF, iaF, PX.slot, iaAF, faF, ldF, D.mem, stF, bxF, mkSF, boundF, fldF, mmF2, D.plain, D.isPure, optAll, D.dull, callVF, splice, D.cells, D.one, sets, resT, D.flat, D.flat0, D.simple, Nat.reduceBNe, Nat.reduceLT, reduceIte, Nat.reduceEqDiff, Nat.reduceAdd, Nat.reduceMul, Nat.reduceSub, Nat.reduceLeDiff, Int.reduceToNat, Int.reduceLT, Int.reduceLE, Int.reduceEq, Int.reduceNeg, Int.reduceSub, Int.reduceAdd, Int.reduceMul]
  refine callF_of (Tryz.c20 l x.u hl) ?_
  simp only [evA, evB, evC, forall_const, implies_true, initE, stepF, D.clean, mvF, moF, tkF, shF, ariF, ciF, catF, scF, ebF, eqF, eqOk, eqPr, enF, notF, ngF, cvF, csF, csbF, lenF, lenSF, ixF, iaF, PX.slot, iaAF, faF, ldF, D.mem, stF, bxF, mkSF, boundF, fldF, mmF2, D.plain, D.isPure, optAll, D.dull, callVF, splice, D.cells, D.one, sets, resT, D.flat, D.flat0, D.simple, Nat.reduceBNe, Nat.reduceLT, reduceIte, Nat.reduceEqDiff, Nat.reduceAdd, Nat.reduceMul, Nat.reduceSub, Nat.reduceLeDiff, Int.reduceToNat, Int.reduceLT, Int.reduceLE, Int.reduceEq, Int.reduceNeg, Int.reduceSub, Int.reduceAdd, Int.reduceMul]
  refine callF_of (Tryz.c20 l x.o hl) ?_
  simp only [evA, evB, evC, forall_const, implies_true, initE, stepF, D.clean, mvF, moF, tkF, shF, ariF, ciF, catF, scF, ebF, eqF, eqOk, eqPr, enF, notF, ngF, cvF, csF, csbF, lenF, lenSF, ixF, iaF, PX.slot, iaAF, faF, ldF, D.mem, stF, bxF, mkSF, boundF, fldF, mmF2, D.plain, D.isPure, optAll, D.dull, callVF, splice, D.cells, D.one, sets, resT, D.flat, D.flat0, D.simple, Nat.reduceBNe, Nat.reduceLT, reduceIte, Nat.reduceEqDiff, Nat.reduceAdd, Nat.reduceMul, Nat.reduceSub, Nat.reduceLeDiff, Int.reduceToNat, Int.reduceLT, Int.reduceLE, Int.reduceEq, Int.reduceNeg, Int.reduceSub, Int.reduceAdd, Int.reduceMul]
  unfold Rl.bad
  generalize idx (fun y => y.u == x.u) l = i
  generalize idx (fun y => y.u == x.o) l = j
  generalize x.k = k
  repeat' first
    | intro _
    | (symm; apply decide_eq_true; omega)
    | (symm; apply decide_eq_false; omega)
    | (rw [Bool.eq_iff_iff, dB_iff, decide_eq_true_iff]; omega)
    | apply And.intro
end Go.Proofs

/-
  SEAT 22: Consistent; ColumnRelations. Own work.
-/
namespace Go.Proofs
open Go Go.Pi Go.RowKit

/-- what a function has made reads as a plain slice -/
theorem Con.plain {P : Program} {L : World → Prop} {f : FuncId} {ds : List D} {wr : Bool} {e m : Nat} {cs : List D} (h : Con P L f ds (.own wr e m cs)) : Con P L f ds (.sl m cs) := by
  refine ⟨⟨h.1.1, rfl⟩, fun S w vs hS hL hv => ((h.2 S w vs hS hL hv).mono ?_)⟩
  rintro e1 w' ⟨v, rfl, hb, ob, h1, h2⟩
  refine ⟨v, rfl, hb, ?_⟩
  show Rep _ w' (.sl m cs) v
  simp only [OwnR] at h2
  rcases h2 with ⟨_, rfl, rfl, rfl⟩ | ⟨b, cap, arr, rfl, rfl, h3, h4, h5, h6, h7, h8, h9, h10, h11⟩
  · exact .sl0 none 0 (Nat.zero_le _)
  · have h8' := h8.mono (S' := fun b j => S b j ∨ (w.heap.size ≤ b ∧ b < w'.heap.size)) (w' := w') (fun b o hh => hh.elim .inl fun hh => .inr ⟨hh.1, hh.2.1⟩) (fun _ _ _ => rfl)
    refine .sl m cs b 0 cap _ h8'.1 h9 h4 h5 ?_ h8'.2
    rw [← h7]
    exact Row.ofBlock h3 (fun j hj => .inr (h1 b rfl))

/-- the first error of a list of relations -/
def errA : List Rl → Int
  | [] => 0
  | x :: r => if x.chk ≠ 0 then x.chk else errA r
def consK (l : List Lay) (r : List Rl) : Int := if errA r ≠ 0 then 0 else if idx (Rl.bad l) r < 0 then 0 else idx (Rl.bad l) r
def consB (l : List Lay) (r : List Rl) : Bool := decide (errA r = 0 ∧ idx (Rl.bad l) r < 0)

theorem idxA_small {α : Type} {p : α → Bool} : ∀ {l : List α} {k : Nat}, idxA p l k = -1 ∨ ((k : Int) ≤ idxA p l k ∧ idxA p l k < k + l.length)
  | [], _ => .inl rfl
  | x :: l, k => by
    simp only [idxA]
    split
    · right; simp only [List.length_cons]; omega
    · rcases idxA_small (p := p) (l := l) (k := k + 1) with h | h
      · exact .inl h
      · right; simp only [List.length_cons]; omega

theorem Tryz.c29 (l : List Lay) (r : List Rl) (hl : l.length ≤ 1000) (hr : r.length ≤ 1000) (hc : Con Tryz.prog Tryz.L 45 [.sl l.length (lays l)] (.int .i64 0)) :
    Con Tryz.prog Tryz.L 29 [.sl l.length (lays l), .sl r.length (rls r)] (.tup [.int .i64 (consK l r), .bool (consB l r), .int .i64 (errA r)]) := by
  refine rule29 Tryz.hL rfl rfl rfl ?_
  simp only [pc29, rs29, evA, evB, evC, forall_const, implies_true, initE, stepF, D.clean, mvF, moF, tkF, shF, ariF, ciF, catF, scF, ebF, eqF, eqOk, eqPr, enF, notF, ngF, cvF, csF, csbF, lenF, lenSF, ixF, iaF, PX.slot, iaAF, faF, ldF, D.mem, stF, bxF, mkSF, boundF, fldF, mmF2, D.plain, D.isPure, optAll, D.dull, callVF, splice, D.cells, D.one, sets, resT, D.flat, D.flat0, D.simple, Nat.reduceBNe, Nat.reduceLT, reduceIte, Nat.reduceEqDiff, Nat.reduceAdd, Nat.reduceMul, Nat.reduceSub, Nat.reduceLeDiff, Int.reduceToNat, Int.reduceLT, Int.reduceLE, Int.reduceEq, Int.reduceNeg, Int.reduceSub, Int.reduceAdd, Int.reduceMul]
  refine callF_of hc ?_
  simp only [evA, evB, evC, forall_const, implies_true, initE, stepF, D.clean, mvF, moF, tkF, shF, ariF, ciF, catF, scF, ebF, eqF, eqOk, eqPr, enF, notF, ngF, cvF, csF, csbF, lenF, lenSF, ixF, iaF, PX.slot, iaAF, faF, ldF, D.mem, stF, bxF, mkSF, boundF, fldF, mmF2, D.plain, D.isPure, optAll, D.dull, callVF, splice, D.cells, D.one, sets, resT, D.flat, D.flat0, D.simple, Nat.reduceBNe, Nat.reduceLT, reduceIte, Nat.reduceEqDiff, Nat.reduceAdd, Nat.reduceMul, Nat.reduceSub, Nat.reduceLeDiff, Int.reduceToNat, Int.reduceLT, Int.reduceLE, Int.reduceEq, Int.reduceNeg, Int.reduceSub, Int.reduceAdd, Int.reduceMul]
  refine loopF_of (fun E => ∃ k : Nat, k ≤ r.length ∧ errA r = errA (r.drop k) ∧ E = [(0, .sl l.length (lays l)), (1, .sl r.length (rls r)), (20, .sl r.length (rls r)), (21, .int .i64 r.length), (22, .int .i64 k)])
    (fun E => match lk E 22 with | .int _ i => r.length - i.toNat | _ => 0) ⟨0, Nat.zero_le _, rfl, rfl⟩ ?_
  rintro _ ⟨k, hk, hi, rfl⟩
  simp only [evA, evB, evC, forall_const, implies_true, initE, stepF, D.clean, mvF, moF, tkF, shF, ariF, ciF, catF, scF, ebF, eqF, eqOk, eqPr, enF, notF, ngF, cvF, csF, csbF, lenF, lenSF, ixF, iaF, PX.slot, iaAF, faF, ldF, D.mem, stF, bxF, mkSF, boundF, fldF, mmF2, D.plain, D.isPure, optAll, D.dull, callVF, splice, D.cells, D.one, sets, resT, D.flat, D.flat0, D.simple, Nat.reduceBNe, Nat.reduceLT, reduceIte, Nat.reduceEqDiff, Nat.reduceAdd, Nat.reduceMul, Nat.reduceSub, Nat.reduceLeDiff, Int.reduceToNat, Int.reduceLT, Int.reduceLE, Int.reduceEq, Int.reduceNeg, Int.reduceSub, Int.reduceAdd, Int.reduceMul, ldC_rls]
  refine ⟨fun h1 => ?_, fun h1 => ?_⟩
  · have hx : r[k]? = some (r[k]'(by omega)) := List.getElem?_eq_getElem (by omega)
    generalize r[k]'(by omega) = x at hx
    rw [drop_cons hx] at hi
    simp only [errA] at hi
    refine ⟨⟨by omega, by rw [rows_length Rl.d_len]; omega⟩, x, hx, ?_⟩
    have h30 := Tryz.c30 x
    simp only [Rl.d, evA, evB, evC, forall_const, implies_true, initE, stepF, D.clean, mvF, moF, tkF, shF, ariF, ciF, catF, scF, ebF, eqF, eqOk, eqPr, enF, notF, ngF, cvF, csF, csbF, lenF, lenSF, ixF, iaF, PX.slot, iaAF, faF, ldF, D.mem, stF, bxF, mkSF, boundF, fldF, mmF2, D.plain, D.isPure, optAll, D.dull, callVF, splice, D.cells, D.one, sets, resT, D.flat, D.flat0, D.simple, Nat.reduceBNe, Nat.reduceLT, reduceIte, Nat.reduceEqDiff, Nat.reduceAdd, Nat.reduceMul, Nat.reduceSub, Nat.reduceLeDiff, Int.reduceToNat, Int.reduceLT, Int.reduceLE, Int.reduceEq, Int.reduceNeg, Int.reduceSub, Int.reduceAdd, Int.reduceMul] at h30 ⊢
    refine callF_of h30 ?_
    simp only [evA, evB, evC, forall_const, implies_true, initE, stepF, D.clean, mvF, moF, tkF, shF, ariF, ciF, catF, scF, ebF, eqF, eqOk, eqPr, enF, notF, ngF, cvF, csF, csbF, lenF, lenSF, ixF, iaF, PX.slot, iaAF, faF, ldF, D.mem, stF, bxF, mkSF, boundF, fldF, mmF2, D.plain, D.isPure, optAll, D.dull, callVF, splice, D.cells, D.one, sets, resT, D.flat, D.flat0, D.simple, Nat.reduceBNe, Nat.reduceLT, reduceIte, Nat.reduceEqDiff, Nat.reduceAdd, Nat.reduceMul, Nat.reduceSub, Nat.reduceLeDiff, Int.reduceToNat, Int.reduceLT, Int.reduceLE, Int.reduceEq, Int.reduceNeg, Int.reduceSub, Int.reduceAdd, Int.reduceMul]
    refine ⟨fun h => ?_, fun h => ⟨by omega, ⟨k + 1, by omega, ?_, rfl⟩, by omega⟩⟩
    · rw [if_pos h] at hi
      have e1 : consK l r = 0 := by unfold consK; rw [if_pos (by rw [hi]; exact h)]
      have e2 : consB l r = false := by unfold consB; exact decide_eq_false fun h' => h (hi ▸ h'.1)
      rw [e1, e2, hi]; rfl
    · rw [hi, if_neg h]
  · have : k = r.length := by omega
    subst this
    rw [List.drop_length] at hi
    simp only [errA] at hi
    clear h1 hk
    have eK : consK l r = if idx (Rl.bad l) r < 0 then 0 else idx (Rl.bad l) r := by unfold consK; rw [if_neg (by omega)]
    have eB : consB l r = decide (idx (Rl.bad l) r < 0) := by unfold consB; rw [hi]; simp
    refine loopF_of (fun E => ∃ k : Nat, k ≤ r.length ∧ idx (Rl.bad l) r = idxA (Rl.bad l) (r.drop k) k ∧ E = [(0, .sl l.length (lays l)), (32, .sl r.length (rls r)), (33, .int .i64 r.length), (34, .int .i64 k)])
      (fun E => match lk E 34 with | .int _ i => r.length - i.toNat | _ => 0) ⟨0, Nat.zero_le _, rfl, rfl⟩ ?_
    rintro _ ⟨k, hk, hj, rfl⟩
    simp only [evA, evB, evC, forall_const, implies_true, initE, stepF, D.clean, mvF, moF, tkF, shF, ariF, ciF, catF, scF, ebF, eqF, eqOk, eqPr, enF, notF, ngF, cvF, csF, csbF, lenF, lenSF, ixF, iaF, PX.slot, iaAF, faF, ldF, D.mem, stF, bxF, mkSF, boundF, fldF, mmF2, D.plain, D.isPure, optAll, D.dull, callVF, splice, D.cells, D.one, sets, resT, D.flat, D.flat0, D.simple, Nat.reduceBNe, Nat.reduceLT, reduceIte, Nat.reduceEqDiff, Nat.reduceAdd, Nat.reduceMul, Nat.reduceSub, Nat.reduceLeDiff, Int.reduceToNat, Int.reduceLT, Int.reduceLE, Int.reduceEq, Int.reduceNeg, Int.reduceSub, Int.reduceAdd, Int.reduceMul, ldC_rls]
    refine ⟨fun h1 => ?_, fun h1 => ?_⟩
    · have hx : r[k]? = some (r[k]'(by omega)) := List.getElem?_eq_getElem (by omega)
      generalize r[k]'(by omega) = x at hx
      rw [drop_cons hx] at hj
      simp only [idxA] at hj
      refine ⟨⟨by omega, by rw [rows_length Rl.d_len]; omega⟩, x, hx, ?_⟩
      simp only [Rl.d, evA, evB, evC, forall_const, implies_true, initE, stepF, D.clean, mvF, moF, tkF, shF, ariF, ciF, catF, scF, ebF, eqF, eqOk, eqPr, enF, notF, ngF, cvF, csF, csbF, lenF, lenSF, ixF, iaF, PX.slot, iaAF, faF, ldF, D.mem, stF, bxF, mkSF, boundF, fldF, mmF2, D.plain, D.isPure, optAll, D.dull, callVF, splice, D.cells, D.one, sets, resT, D.flat, D.flat0, D.simple, Nat.reduceBNe, Nat.reduceLT, reduceIte, Nat.reduceEqDiff, Nat.reduceAdd, Nat.reduceMul, Nat.reduceSub, Nat.reduceLeDiff, Int.reduceToNat, Int.reduceLT, Int.reduceLE, Int.reduceEq, Int.reduceNeg, Int.reduceSub, Int.reduceAdd, Int.reduceMul]
      refine callF_of (Tryz.c56 l x.u hl) ?_
      simp only [evA, evB, evC, forall_const, implies_true, initE, stepF, D.clean, mvF, moF, tkF, shF, ariF, ciF, catF, scF, ebF, eqF, eqOk, eqPr, enF, notF, ngF, cvF, csF, csbF, lenF, lenSF, ixF, iaF, PX.slot, iaAF, faF, ldF, D.mem, stF, bxF, mkSF, boundF, fldF, mmF2, D.plain, D.isPure, optAll, D.dull, callVF, splice, D.cells, D.one, sets, resT, D.flat, D.flat0, D.simple, Nat.reduceBNe, Nat.reduceLT, reduceIte, Nat.reduceEqDiff, Nat.reduceAdd, Nat.reduceMul, Nat.reduceSub, Nat.reduceLeDiff, Int.reduceToNat, Int.reduceLT, Int.reduceLE, Int.reduceEq, Int.reduceNeg, Int.reduceSub, Int.reduceAdd, Int.reduceMul]
      refine callF_of (Tryz.c56 l x.o hl) ?_
      simp only [evA, evB, evC, forall_const, implies_true, initE, stepF, D.clean, mvF, moF, tkF, shF, ariF, ciF, catF, scF, ebF, eqF, eqOk, eqPr, enF, notF, ngF, cvF, csF, csbF, lenF, lenSF, ixF, iaF, PX.slot, iaAF, faF, ldF, D.mem, stF, bxF, mkSF, boundF, fldF, mmF2, D.plain, D.isPure, optAll, D.dull, callVF, splice, D.cells, D.one, sets, resT, D.flat, D.flat0, D.simple, Nat.reduceBNe, Nat.reduceLT, reduceIte, Nat.reduceEqDiff, Nat.reduceAdd, Nat.reduceMul, Nat.reduceSub, Nat.reduceLeDiff, Int.reduceToNat, Int.reduceLT, Int.reduceLE, Int.reduceEq, Int.reduceNeg, Int.reduceSub, Int.reduceAdd, Int.reduceMul]
      have yes : x.bad l = true → consK l r = k ∧ consB l r = false := fun h => by
        rw [if_pos h] at hj
        rw [eK, eB, hj, if_neg (by omega)]
        exact ⟨rfl, decide_eq_false (by omega)⟩
      have no : x.bad l = false → idx (Rl.bad l) r = idxA (Rl.bad l) (r.drop (k + 1)) (k + 1) := fun h => by rw [hj, h]; rfl
      have fin : x.bad l = false → (-9223372036854775808 ≤ (k : Int) + 1 ∧ (k : Int) + 1 ≤ 9223372036854775807) ∧
          (∃ k1 : Nat, k1 ≤ r.length ∧ idx (Rl.bad l) r = idxA (Rl.bad l) (List.drop k1 r) k1 ∧ (34, D.int IntKind.i64 ((k : Int) + 1)) = (34, D.int IntKind.i64 k1)) ∧ r.length - ((k : Int) + 1).toNat < r.length - k := fun h => ⟨by omega, ⟨k + 1, by omega, no h, rfl⟩, by omega⟩
      clear hj no
      unfold Rl.bad at yes fin
      generalize idx (fun y => y.u == x.u) l = i at yes fin ⊢
      generalize idx (fun y => y.u == x.o) l = j at yes fin ⊢
      generalize x.k = q at yes fin ⊢
      repeat' first
        | intro _
        | exact fin (decide_eq_false (by omega))
        | (obtain ⟨e1, e2⟩ := yes (decide_eq_true (by omega)); rw [e1, e2, hi]; rfl)
        | apply And.intro
    · have : k = r.length := by omega
      subst this
      rw [List.drop_length] at hj
      simp only [idxA] at hj
      rw [eK, eB, hi, hj]; rfl
end Go.Proofs

/-
  SEAT 22: two units of a column: Index, Younger, Surfaces. Own work.
-/
namespace Go.Proofs
open Go Go.Pi Go.RowKit

/-- the place of a unit, or -1 -/
abbrev pos (l : List Lay) (u : List UInt8) : Int := idx (fun x => x.u == u) l

theorem pos_lo {l : List Lay} {u : List UInt8} : -1 ≤ pos l u ∧ pos l u < l.length ∨ pos l u = -1 := by
  rcases idxA_small (p := fun x : Lay => x.u == u) (l := l) (k := 0) with h | h
  · exact .inr h
  · exact .inl ⟨by show -1 ≤ idxA _ l 0; omega, by show idxA _ l 0 < _; omega⟩

theorem Tryz.c56p (l : List Lay) (u : List UInt8) (hl : l.length ≤ 1000) : Con Tryz.prog Tryz.L 56 [.sl l.length (lays l), .str u] (.int .i64 (pos l u)) := Tryz.c56 l u hl
theorem Tryz.c20p (l : List Lay) (u : List UInt8) (hl : l.length ≤ 1000) : Con Tryz.prog Tryz.L 20 [.sl l.length (lays l), .str u] (.int .i64 (pos l u)) := Tryz.c20 l u hl

/-- both -/
def bothE (i j : Int) : Int := if i < 0 ∨ j < 0 then 10 else 0
theorem Tryz.c60 (l : List Lay) (a b : List UInt8) (hl : l.length ≤ 1000) (hc : Con Tryz.prog Tryz.L 45 [.sl l.length (lays l)] (.int .i64 0)) :
    Con Tryz.prog Tryz.L 60 [.sl l.length (lays l), .str a, .str b] (.tup [.int .i64 (if bothE (pos l a) (pos l b) = 0 then pos l a else 0), .int .i64 (if bothE (pos l a) (pos l b) = 0 then pos l b else 0), .int .i64 (bothE (pos l a) (pos l b))]) := by
  refine rule60 Tryz.hL rfl rfl rfl ?_
  simp only [pc60, rs60, evA, evB, evC, forall_const, implies_true, initE, stepF, D.clean, mvF, moF, tkF, shF, ariF, ciF, catF, scF, ebF, eqF, eqOk, eqPr, enF, notF, ngF, cvF, csF, csbF, lenF, lenSF, ixF, iaF, PX.slot, iaAF, faF, ldF, D.mem, stF, bxF, mkSF, boundF, fldF, mmF2, D.plain, D.isPure, optAll, D.dull, callVF, splice, D.cells, D.one, sets, resT, D.flat, D.flat0, D.simple, Nat.reduceBNe, Nat.reduceLT, reduceIte, Nat.reduceEqDiff, Nat.reduceAdd, Nat.reduceMul, Nat.reduceSub, Nat.reduceLeDiff, Int.reduceToNat, Int.reduceLT, Int.reduceLE, Int.reduceEq, Int.reduceNeg, Int.reduceSub, Int.reduceAdd, Int.reduceMul]
  refine callF_of hc ?_
  simp only [evA, evB, evC, forall_const, implies_true, initE, stepF, D.clean, mvF, moF, tkF, shF, ariF, ciF, catF, scF, ebF, eqF, eqOk, eqPr, enF, notF, ngF, cvF, csF, csbF, lenF, lenSF, ixF, iaF, PX.slot, iaAF, faF, ldF, D.mem, stF, bxF, mkSF, boundF, fldF, mmF2, D.plain, D.isPure, optAll, D.dull, callVF, splice, D.cells, D.one, sets, resT, D.flat, D.flat0, D.simple, Nat.reduceBNe, Nat.reduceLT, reduceIte, Nat.reduceEqDiff, Nat.reduceAdd, Nat.reduceMul, Nat.reduceSub, Nat.reduceLeDiff, Int.reduceToNat, Int.reduceLT, Int.reduceLE, Int.reduceEq, Int.reduceNeg, Int.reduceSub, Int.reduceAdd, Int.reduceMul]
  refine callF_of (Tryz.c56p l a hl) ?_
  simp only [evA, evB, evC, forall_const, implies_true, initE, stepF, D.clean, mvF, moF, tkF, shF, ariF, ciF, catF, scF, ebF, eqF, eqOk, eqPr, enF, notF, ngF, cvF, csF, csbF, lenF, lenSF, ixF, iaF, PX.slot, iaAF, faF, ldF, D.mem, stF, bxF, mkSF, boundF, fldF, mmF2, D.plain, D.isPure, optAll, D.dull, callVF, splice, D.cells, D.one, sets, resT, D.flat, D.flat0, D.simple, Nat.reduceBNe, Nat.reduceLT, reduceIte, Nat.reduceEqDiff, Nat.reduceAdd, Nat.reduceMul, Nat.reduceSub, Nat.reduceLeDiff, Int.reduceToNat, Int.reduceLT, Int.reduceLE, Int.reduceEq, Int.reduceNeg, Int.reduceSub, Int.reduceAdd, Int.reduceMul]
  refine callF_of (Tryz.c56p l b hl) ?_
  simp only [evA, evB, evC, forall_const, implies_true, initE, stepF, D.clean, mvF, moF, tkF, shF, ariF, ciF, catF, scF, ebF, eqF, eqOk, eqPr, enF, notF, ngF, cvF, csF, csbF, lenF, lenSF, ixF, iaF, PX.slot, iaAF, faF, ldF, D.mem, stF, bxF, mkSF, boundF, fldF, mmF2, D.plain, D.isPure, optAll, D.dull, callVF, splice, D.cells, D.one, sets, resT, D.flat, D.flat0, D.simple, Nat.reduceBNe, Nat.reduceLT, reduceIte, Nat.reduceEqDiff, Nat.reduceAdd, Nat.reduceMul, Nat.reduceSub, Nat.reduceLeDiff, Int.reduceToNat, Int.reduceLT, Int.reduceLE, Int.reduceEq, Int.reduceNeg, Int.reduceSub, Int.reduceAdd, Int.reduceMul]
  generalize pos l a = i
  generalize pos l b = j
  have y : i < 0 ∨ j < 0 → bothE i j = 10 := fun h => if_pos h
  have n : ¬(i < 0 ∨ j < 0) → bothE i j = 0 := fun h => if_neg h
  repeat' first
    | intro _
    | (rw [y (by omega)]; rfl)
    | (rw [n (by omega)]; rfl)
    | apply And.intro

theorem Tryz.c21 (l : List Lay) (a : List UInt8) (hl : l.length ≤ 1000) (hc : Con Tryz.prog Tryz.L 45 [.sl l.length (lays l)] (.int .i64 0)) :
    Con Tryz.prog Tryz.L 21 [.sl l.length (lays l), .str a] (.tup [.int .i64 (if 0 ≤ pos l a then pos l a else 0), .bool (decide (0 ≤ pos l a)), .int .i64 0]) := by
  refine rule21 Tryz.hL rfl rfl rfl ?_
  simp only [pc21, rs21, evA, evB, evC, forall_const, implies_true, initE, stepF, D.clean, mvF, moF, tkF, shF, ariF, ciF, catF, scF, ebF, eqF, eqOk, eqPr, enF, notF, ngF, cvF, csF, csbF, lenF, lenSF, ixF, iaF, PX.slot, iaAF, faF, ldF, D.mem, stF, bxF, mkSF, boundF, fldF, mmF2, D.plain, D.isPure, optAll, D.dull, callVF, splice, D.cells, D.one, sets, resT, D.flat, D.flat0, D.simple, Nat.reduceBNe, Nat.reduceLT, reduceIte, Nat.reduceEqDiff, Nat.reduceAdd, Nat.reduceMul, Nat.reduceSub, Nat.reduceLeDiff, Int.reduceToNat, Int.reduceLT, Int.reduceLE, Int.reduceEq, Int.reduceNeg, Int.reduceSub, Int.reduceAdd, Int.reduceMul]
  refine callF_of hc ?_
  simp only [evA, evB, evC, forall_const, implies_true, initE, stepF, D.clean, mvF, moF, tkF, shF, ariF, ciF, catF, scF, ebF, eqF, eqOk, eqPr, enF, notF, ngF, cvF, csF, csbF, lenF, lenSF, ixF, iaF, PX.slot, iaAF, faF, ldF, D.mem, stF, bxF, mkSF, boundF, fldF, mmF2, D.plain, D.isPure, optAll, D.dull, callVF, splice, D.cells, D.one, sets, resT, D.flat, D.flat0, D.simple, Nat.reduceBNe, Nat.reduceLT, reduceIte, Nat.reduceEqDiff, Nat.reduceAdd, Nat.reduceMul, Nat.reduceSub, Nat.reduceLeDiff, Int.reduceToNat, Int.reduceLT, Int.reduceLE, Int.reduceEq, Int.reduceNeg, Int.reduceSub, Int.reduceAdd, Int.reduceMul]
  refine callF_of (Tryz.c56p l a hl) ?_
  simp only [evA, evB, evC, forall_const, implies_true, initE, stepF, D.clean, mvF, moF, tkF, shF, ariF, ciF, catF, scF, ebF, eqF, eqOk, eqPr, enF, notF, ngF, cvF, csF, csbF, lenF, lenSF, ixF, iaF, PX.slot, iaAF, faF, ldF, D.mem, stF, bxF, mkSF, boundF, fldF, mmF2, D.plain, D.isPure, optAll, D.dull, callVF, splice, D.cells, D.one, sets, resT, D.flat, D.flat0, D.simple, Nat.reduceBNe, Nat.reduceLT, reduceIte, Nat.reduceEqDiff, Nat.reduceAdd, Nat.reduceMul, Nat.reduceSub, Nat.reduceLeDiff, Int.reduceToNat, Int.reduceLT, Int.reduceLE, Int.reduceEq, Int.reduceNeg, Int.reduceSub, Int.reduceAdd, Int.reduceMul]
  generalize pos l a = i
  refine ⟨fun h => ?_, fun h => ?_⟩
  all_goals first
    | (rw [if_pos (by omega), decide_eq_true (by omega)]; rfl)
    | (rw [if_neg (by omega), decide_eq_false (by omega)]; rfl)

theorem Tryz.c23 (l : List Lay) (a b : List UInt8) (hl : l.length ≤ 1000) (hc : Con Tryz.prog Tryz.L 45 [.sl l.length (lays l)] (.int .i64 0)) :
    Con Tryz.prog Tryz.L 23 [.sl l.length (lays l), .str a, .str b] (.tup [.bool (decide (bothE (pos l a) (pos l b) = 0 ∧ pos l b < pos l a)), .int .i64 (bothE (pos l a) (pos l b))]) := by
  refine rule23 Tryz.hL rfl rfl rfl ?_
  simp only [pc23, rs23, evA, evB, evC, forall_const, implies_true, initE, stepF, D.clean, mvF, moF, tkF, shF, ariF, ciF, catF, scF, ebF, eqF, eqOk, eqPr, enF, notF, ngF, cvF, csF, csbF, lenF, lenSF, ixF, iaF, PX.slot, iaAF, faF, ldF, D.mem, stF, bxF, mkSF, boundF, fldF, mmF2, D.plain, D.isPure, optAll, D.dull, callVF, splice, D.cells, D.one, sets, resT, D.flat, D.flat0, D.simple, Nat.reduceBNe, Nat.reduceLT, reduceIte, Nat.reduceEqDiff, Nat.reduceAdd, Nat.reduceMul, Nat.reduceSub, Nat.reduceLeDiff, Int.reduceToNat, Int.reduceLT, Int.reduceLE, Int.reduceEq, Int.reduceNeg, Int.reduceSub, Int.reduceAdd, Int.reduceMul]
  refine callF_of (Tryz.c60 l a b hl hc) ?_
  simp only [evA, evB, evC, forall_const, implies_true, initE, stepF, D.clean, mvF, moF, tkF, shF, ariF, ciF, catF, scF, ebF, eqF, eqOk, eqPr, enF, notF, ngF, cvF, csF, csbF, lenF, lenSF, ixF, iaF, PX.slot, iaAF, faF, ldF, D.mem, stF, bxF, mkSF, boundF, fldF, mmF2, D.plain, D.isPure, optAll, D.dull, callVF, splice, D.cells, D.one, sets, resT, D.flat, D.flat0, D.simple, Nat.reduceBNe, Nat.reduceLT, reduceIte, Nat.reduceEqDiff, Nat.reduceAdd, Nat.reduceMul, Nat.reduceSub, Nat.reduceLeDiff, Int.reduceToNat, Int.reduceLT, Int.reduceLE, Int.reduceEq, Int.reduceNeg, Int.reduceSub, Int.reduceAdd, Int.reduceMul]
  generalize pos l a = i
  generalize pos l b = j
  generalize bothE i j = e
  refine ⟨fun h => ?_, fun h => ?_⟩
  · rw [if_pos h, if_pos h]
    have : dB (j < i) = decide (e = 0 ∧ j < i) := by rw [Bool.eq_iff_iff, dB_iff, decide_eq_true_iff]; omega
    rw [this]; rfl
  · rw [decide_eq_false (by omega)]; rfl

/-- the numbers from i up to j -/
def upTo (i j : Int) : List Int := (List.range (j - i).toNat).map fun (n : Nat) => i + n
theorem upTo_len {i : Int} {k : Nat} : (upTo i (i + k)).length = k := by unfold upTo; rw [List.length_map, List.length_range]; omega
theorem upTo_snoc {i : Int} {k : Nat} : upTo i (i + k) ++ [i + k] = upTo i (i + (k + 1 : Nat)) := by
  unfold upTo
  rw [show (i + (k : Int) - i).toNat = k by omega, show (i + ((k + 1 : Nat) : Int) - i).toNat = k + 1 by omega, List.range_succ, List.map_append]
  rfl
theorem Tryz.c24 (l : List Lay) (a b : List UInt8) (hl : l.length ≤ 1000) (hc : Con Tryz.prog Tryz.L 45 [.sl l.length (lays l)] (.int .i64 0)) :
    Con Tryz.prog Tryz.L 24 [.sl l.length (lays l), .str a, .str b] (.tup [.sl (if bothE (pos l a) (pos l b) = 0 then upTo (pos l a) (pos l b) else []).length (ints .i64 (if bothE (pos l a) (pos l b) = 0 then upTo (pos l a) (pos l b) else [])), .int .i64 (if bothE (pos l a) (pos l b) = 0 then if pos l b ≤ pos l a then 6 else 0 else bothE (pos l a) (pos l b))]) := by
  refine rule24 Tryz.hL rfl rfl rfl ?_
  simp only [pc24, rs24, evA, evB, evC, forall_const, implies_true, initE, stepF, D.clean, mvF, moF, tkF, shF, ariF, ciF, catF, scF, ebF, eqF, eqOk, eqPr, enF, notF, ngF, cvF, csF, csbF, lenF, lenSF, ixF, iaF, PX.slot, iaAF, faF, ldF, D.mem, stF, bxF, mkSF, boundF, fldF, mmF2, D.plain, D.isPure, optAll, D.dull, callVF, splice, D.cells, D.one, sets, resT, D.flat, D.flat0, D.simple, Nat.reduceBNe, Nat.reduceLT, reduceIte, Nat.reduceEqDiff, Nat.reduceAdd, Nat.reduceMul, Nat.reduceSub, Nat.reduceLeDiff, Int.reduceToNat, Int.reduceLT, Int.reduceLE, Int.reduceEq, Int.reduceNeg, Int.reduceSub, Int.reduceAdd, Int.reduceMul]
  refine callF_of (Tryz.c60 l a b hl hc) ?_
  simp only [evA, evB, evC, forall_const, implies_true, initE, stepF, D.clean, mvF, moF, tkF, shF, ariF, ciF, catF, scF, ebF, eqF, eqOk, eqPr, enF, notF, ngF, cvF, csF, csbF, lenF, lenSF, ixF, iaF, PX.slot, iaAF, faF, ldF, D.mem, stF, bxF, mkSF, boundF, fldF, mmF2, D.plain, D.isPure, optAll, D.dull, callVF, splice, D.cells, D.one, sets, resT, D.flat, D.flat0, D.simple, Nat.reduceBNe, Nat.reduceLT, reduceIte, Nat.reduceEqDiff, Nat.reduceAdd, Nat.reduceMul, Nat.reduceSub, Nat.reduceLeDiff, Int.reduceToNat, Int.reduceLT, Int.reduceLE, Int.reduceEq, Int.reduceNeg, Int.reduceSub, Int.reduceAdd, Int.reduceMul]
  have hi := pos_lo (l := l) (u := a)
  have hj := pos_lo (l := l) (u := b)
  have he : bothE (pos l a) (pos l b) = 0 → 0 ≤ pos l a ∧ 0 ≤ pos l b := fun h => by unfold bothE at h; split at h <;> omega
  generalize pos l a = i at hi he ⊢
  generalize pos l b = j at hj he ⊢
  generalize bothE i j = e at he ⊢
  refine ⟨fun h => ?_, fun h => ?_⟩
  · rw [if_neg h, if_neg h]; rfl
  · have h : e = 0 := by omega
    obtain ⟨i0, j0⟩ := he h
    rw [if_pos h, if_pos h, if_pos h, if_pos h]
    refine ⟨fun h2 => ?_, fun h2 => ?_⟩
    · rw [if_pos h2]
      have : upTo i j = [] := by unfold upTo; rw [show (j - i).toNat = 0 by omega]; rfl
      rw [this]; rfl
    · rw [if_neg h2]
      refine loopF_of (fun E => ∃ k : Nat, (k : Int) ≤ j - i ∧ E = [(8, .int .i64 (i + k)), (9, .int .i64 j), (11, .own true 3 k (ints .i64 (upTo i (i + k))))])
        (fun E => match lk E 8 with | .int _ x => (j - x).toNat | _ => 0) ⟨0, by omega, ?_⟩ ?_
      · simp [upTo, ints]
      rintro _ ⟨k, hk, rfl⟩
      simp only [evA, evB, evC, forall_const, implies_true, initE, stepF, D.clean, mvF, moF, tkF, shF, ariF, ciF, catF, scF, ebF, eqF, eqOk, eqPr, enF, notF, ngF, cvF, csF, csbF, lenF, lenSF, ixF, iaF, PX.slot, iaAF, faF, ldF, D.mem, stF, bxF, mkSF, boundF, fldF, mmF2, D.plain, D.isPure, optAll, D.dull, callVF, splice, D.cells, D.one, sets, resT, D.flat, D.flat0, D.simple, Nat.reduceBNe, Nat.reduceLT, reduceIte, Nat.reduceEqDiff, Nat.reduceAdd, Nat.reduceMul, Nat.reduceSub, Nat.reduceLeDiff, Int.reduceToNat, Int.reduceLT, Int.reduceLE, Int.reduceEq, Int.reduceNeg, Int.reduceSub, Int.reduceAdd, Int.reduceMul]
      refine ⟨fun h3 => ⟨by omega, by omega, by omega, ⟨k + 1, by omega, ?_, ?_⟩, by omega⟩, fun h3 => ?_⟩
      · rw [show i + (k : Int) + 1 = i + ((k + 1 : Nat) : Int) by omega]
      · rw [upTo_snoc]
      · obtain rfl : j = i + k := by omega
        rw [upTo_len]; rfl
end Go.Proofs

/-
  SEAT 22: Contains; the names of a column. Own work.
-/
namespace Go.Proofs
open Go Go.Pi Go.RowKit

theorem Tryz.c71 (l : List (List UInt8)) (u : List UInt8) (hl : l.length ≤ 2000000) : Con Tryz.prog Tryz.L 71 [.sl l.length (strs l), .str u] (.int .i64 (idx (fun x => u == x) l)) := by
  refine rule71 Tryz.hL rfl rfl rfl ?_
  simp only [pc71, rs71, evA, evB, evC, forall_const, implies_true, initE, stepF, D.clean, mvF, moF, tkF, shF, ariF, ciF, catF, scF, ebF, eqF, eqOk, eqPr, enF, notF, ngF, cvF, csF, csbF, lenF, lenSF, ixF, iaF, PX.slot, iaAF, faF, ldF, D.mem, stF, bxF, mkSF, boundF, fldF, mmF2, D.plain, D.isPure, optAll, D.dull, callVF, splice, D.cells, D.one, sets, resT, D.flat, D.flat0, D.simple, Nat.reduceBNe, Nat.reduceLT, reduceIte, Nat.reduceEqDiff, Nat.reduceAdd, Nat.reduceMul, Nat.reduceSub, Nat.reduceLeDiff, Int.reduceToNat, Int.reduceLT, Int.reduceLE, Int.reduceEq, Int.reduceNeg, Int.reduceSub, Int.reduceAdd, Int.reduceMul]
  refine loopF_of (fun E => ∃ k : Nat, k ≤ l.length ∧ idx (fun x => u == x) l = idxA (fun x => u == x) (l.drop k) k ∧ E = [(0, .sl l.length (strs l)), (1, .str u), (7, .int .i64 l.length), (8, .int .i64 k)])
    (fun E => match lk E 8 with | .int _ i => l.length - i.toNat | _ => 0) ⟨0, Nat.zero_le _, rfl, rfl⟩ ?_
  rintro _ ⟨k, hk, hi, rfl⟩
  simp only [evA, evB, evC, forall_const, implies_true, initE, stepF, D.clean, mvF, moF, tkF, shF, ariF, ciF, catF, scF, ebF, eqF, eqOk, eqPr, enF, notF, ngF, cvF, csF, csbF, lenF, lenSF, ixF, iaF, PX.slot, iaAF, faF, ldF, D.mem, stF, bxF, mkSF, boundF, fldF, mmF2, D.plain, D.isPure, optAll, D.dull, callVF, splice, D.cells, D.one, sets, resT, D.flat, D.flat0, D.simple, Nat.reduceBNe, Nat.reduceLT, reduceIte, Nat.reduceEqDiff, Nat.reduceAdd, Nat.reduceMul, Nat.reduceSub, Nat.reduceLeDiff, Int.reduceToNat, Int.reduceLT, Int.reduceLE, Int.reduceEq, Int.reduceNeg, Int.reduceSub, Int.reduceAdd, Int.reduceMul, ldC_strs]
  refine ⟨fun h1 => ?_, fun h1 => ?_⟩
  · have hx : l[k]? = some (l[k]'(by omega)) := List.getElem?_eq_getElem (by omega)
    generalize l[k]'(by omega) = x at hx
    rw [drop_cons hx] at hi
    simp only [idxA] at hi
    refine ⟨⟨by omega, by rw [strs_length]; omega⟩, x, hx, fun h2 => ?_, fun h2 => ?_⟩
    all_goals first
      | (rw [hi, if_pos (beq_iff_eq.2 h2)]; done)
      | (rw [hi, if_pos (beq_iff_eq.2 h2)]; rfl)
      | (rw [hi, if_pos (beq_iff_eq.2 (Decidable.of_not_not h2))]; done)
      | (rw [hi, if_pos (beq_iff_eq.2 (Decidable.of_not_not h2))]; rfl)
      | (exact ⟨by omega, ⟨k + 1, by omega, by rw [hi, if_neg (fun h => h2 (beq_iff_eq.1 h))], rfl⟩, by omega⟩)
  · have : k = l.length := by omega
    subst this
    rw [hi]; simp [idxA]

theorem Tryz.c39 (l : List (List UInt8)) (u : List UInt8) (hl : l.length ≤ 2000000) : Con Tryz.prog Tryz.L 39 [.sl l.length (strs l), .str u] (.bool (dB (0 ≤ idx (fun x => u == x) l))) := by
  refine rule39 Tryz.hL rfl rfl rfl ?_
  simp only [pc39, rs39, evA, evB, evC, forall_const, implies_true, initE, stepF, D.clean, mvF, moF, tkF, shF, ariF, ciF, catF, scF, ebF, eqF, eqOk, eqPr, enF, notF, ngF, cvF, csF, csbF, lenF, lenSF, ixF, iaF, PX.slot, iaAF, faF, ldF, D.mem, stF, bxF, mkSF, boundF, fldF, mmF2, D.plain, D.isPure, optAll, D.dull, callVF, splice, D.cells, D.one, sets, resT, D.flat, D.flat0, D.simple, Nat.reduceBNe, Nat.reduceLT, reduceIte, Nat.reduceEqDiff, Nat.reduceAdd, Nat.reduceMul, Nat.reduceSub, Nat.reduceLeDiff, Int.reduceToNat, Int.reduceLT, Int.reduceLE, Int.reduceEq, Int.reduceNeg, Int.reduceSub, Int.reduceAdd, Int.reduceMul]
  refine callF_of (Tryz.c71 l u hl) ?_
  simp only [evA, evB, evC, forall_const, implies_true, initE, stepF, D.clean, mvF, moF, tkF, shF, ariF, ciF, catF, scF, ebF, eqF, eqOk, eqPr, enF, notF, ngF, cvF, csF, csbF, lenF, lenSF, ixF, iaF, PX.slot, iaAF, faF, ldF, D.mem, stF, bxF, mkSF, boundF, fldF, mmF2, D.plain, D.isPure, optAll, D.dull, callVF, splice, D.cells, D.one, sets, resT, D.flat, D.flat0, D.simple, Nat.reduceBNe, Nat.reduceLT, reduceIte, Nat.reduceEqDiff, Nat.reduceAdd, Nat.reduceMul, Nat.reduceSub, Nat.reduceLeDiff, Int.reduceToNat, Int.reduceLT, Int.reduceLE, Int.reduceEq, Int.reduceNeg, Int.reduceSub, Int.reduceAdd, Int.reduceMul]

theorem Tryz.c69 (l : List Lay) (hl : l.length ≤ 1000) : Con Tryz.prog Tryz.L 69 [.sl l.length (lays l)] (.own true 9 l.length (strs (l.map Lay.u))) := by
  refine rule69 Tryz.hL rfl rfl rfl ?_
  simp only [pc69, rs69, evA, evB, evC, forall_const, implies_true, initE, stepF, D.clean, mvF, moF, tkF, shF, ariF, ciF, catF, scF, ebF, eqF, eqOk, eqPr, enF, notF, ngF, cvF, csF, csbF, lenF, lenSF, ixF, iaF, PX.slot, iaAF, faF, ldF, D.mem, stF, bxF, mkSF, boundF, fldF, mmF2, D.plain, D.isPure, optAll, D.dull, callVF, splice, D.cells, D.one, sets, resT, D.flat, D.flat0, D.simple, Nat.reduceBNe, Nat.reduceLT, reduceIte, Nat.reduceEqDiff, Nat.reduceAdd, Nat.reduceMul, Nat.reduceSub, Nat.reduceLeDiff, Int.reduceToNat, Int.reduceLT, Int.reduceLE, Int.reduceEq, Int.reduceNeg, Int.reduceSub, Int.reduceAdd, Int.reduceMul]
  refine loopF_of (fun E => ∃ k : Nat, k ≤ l.length ∧ E = [(3, .own true 9 k (strs ((l.take k).map Lay.u))), (6, .sl l.length (lays l)), (7, .int .i64 l.length), (8, .int .i64 k)])
    (fun E => match lk E 8 with | .int _ i => l.length - i.toNat | _ => 0) ⟨0, Nat.zero_le _, rfl⟩ ?_
  rintro _ ⟨k, hk, rfl⟩
  simp only [evA, evB, evC, forall_const, implies_true, initE, stepF, D.clean, mvF, moF, tkF, shF, ariF, ciF, catF, scF, ebF, eqF, eqOk, eqPr, enF, notF, ngF, cvF, csF, csbF, lenF, lenSF, ixF, iaF, PX.slot, iaAF, faF, ldF, D.mem, stF, bxF, mkSF, boundF, fldF, mmF2, D.plain, D.isPure, optAll, D.dull, callVF, splice, D.cells, D.one, sets, resT, D.flat, D.flat0, D.simple, Nat.reduceBNe, Nat.reduceLT, reduceIte, Nat.reduceEqDiff, Nat.reduceAdd, Nat.reduceMul, Nat.reduceSub, Nat.reduceLeDiff, Int.reduceToNat, Int.reduceLT, Int.reduceLE, Int.reduceEq, Int.reduceNeg, Int.reduceSub, Int.reduceAdd, Int.reduceMul, ldC_lays, Lay.d]
  refine ⟨fun h1 => ?_, fun h1 => ?_⟩
  · have hx : l[k]? = some (l[k]'(by omega)) := List.getElem?_eq_getElem (by omega)
    generalize l[k]'(by omega) = x at hx
    refine ⟨⟨by omega, by omega, by rw [rows_length Lay.d_len]; omega⟩, x, hx, by omega, by omega, by omega, ⟨k + 1, by omega, ?_, rfl⟩, by omega⟩
    obtain ⟨h2, rfl⟩ := List.getElem?_eq_some_iff.1 hx
    rw [List.take_succ_eq_append_getElem h2, List.map_append, strs_snoc]; rfl
  · have : k = l.length := by omega
    subst this
    rw [List.take_length]
end Go.Proofs

/-
  SEAT 22: Units. Own work.
-/
namespace Go.Proofs
open Go Go.Pi Go.RowKit

theorem Tryz.c35 (l : List Lay) (hl : l.length ≤ 1000) (hc : Con Tryz.prog Tryz.L 45 [.sl l.length (lays l)] (.int .i64 0)) : Con Tryz.prog Tryz.L 35 [.sl l.length (lays l)] (.tup [.sl l.length (strs (l.map Lay.u)), .int .i64 0]) := by
  refine rule35 Tryz.hL rfl rfl rfl ?_
  simp only [pc35, rs35, evA, evB, evC, forall_const, implies_true, initE, stepF, D.clean, mvF, moF, tkF, shF, ariF, ciF, catF, scF, ebF, eqF, eqOk, eqPr, enF, notF, ngF, cvF, csF, csbF, lenF, lenSF, ixF, iaF, PX.slot, iaAF, faF, ldF, D.mem, stF, bxF, mkSF, boundF, fldF, mmF2, D.plain, D.isPure, optAll, D.dull, callVF, splice, D.cells, D.one, sets, resT, D.flat, D.flat0, D.simple, Nat.reduceBNe, Nat.reduceLT, reduceIte, Nat.reduceEqDiff, Nat.reduceAdd, Nat.reduceMul, Nat.reduceSub, Nat.reduceLeDiff, Int.reduceToNat, Int.reduceLT, Int.reduceLE, Int.reduceEq, Int.reduceNeg, Int.reduceSub, Int.reduceAdd, Int.reduceMul]
  refine callF_of hc ?_
  simp only [evA, evB, evC, forall_const, implies_true, initE, stepF, D.clean, mvF, moF, tkF, shF, ariF, ciF, catF, scF, ebF, eqF, eqOk, eqPr, enF, notF, ngF, cvF, csF, csbF, lenF, lenSF, ixF, iaF, PX.slot, iaAF, faF, ldF, D.mem, stF, bxF, mkSF, boundF, fldF, mmF2, D.plain, D.isPure, optAll, D.dull, callVF, splice, D.cells, D.one, sets, resT, D.flat, D.flat0, D.simple, Nat.reduceBNe, Nat.reduceLT, reduceIte, Nat.reduceEqDiff, Nat.reduceAdd, Nat.reduceMul, Nat.reduceSub, Nat.reduceLeDiff, Int.reduceToNat, Int.reduceLT, Int.reduceLE, Int.reduceEq, Int.reduceNeg, Int.reduceSub, Int.reduceAdd, Int.reduceMul]
  refine callF_of (Tryz.c69 l hl) ?_
  simp only [evA, evB, evC, forall_const, implies_true, initE, stepF, D.clean, mvF, moF, tkF, shF, ariF, ciF, catF, scF, ebF, eqF, eqOk, eqPr, enF, notF, ngF, cvF, csF, csbF, lenF, lenSF, ixF, iaF, PX.slot, iaAF, faF, ldF, D.mem, stF, bxF, mkSF, boundF, fldF, mmF2, D.plain, D.isPure, optAll, D.dull, callVF, splice, D.cells, D.one, sets, resT, D.flat, D.flat0, D.simple, Nat.reduceBNe, Nat.reduceLT, reduceIte, Nat.reduceEqDiff, Nat.reduceAdd, Nat.reduceMul, Nat.reduceSub, Nat.reduceLeDiff, Int.reduceToNat, Int.reduceLT, Int.reduceLE, Int.reduceEq, Int.reduceNeg, Int.reduceSub, Int.reduceAdd, Int.reduceMul]
  rfl
end Go.Proofs

/-
  SEAT 22: Restrict. Own work.
-/
namespace Go.Proofs
open Go Go.Pi Go.RowKit

noncomputable def has (us : List (List UInt8)) (u : List UInt8) : Bool := dB (0 ≤ idx (fun x => u == x) us)
noncomputable def rsA (l : List Lay) : List (List UInt8) → List (List UInt8) → Int
  | _, [] => 0
  | pre, u :: r => if pos l u < 0 then 10 else if has pre u = true then 9 else rsA l (pre ++ [u]) r
noncomputable def rsE (l : List Lay) (us : List (List UInt8)) : Int := if us = [] then 13 else rsA l [] us
noncomputable def rsL (l : List Lay) (us : List (List UInt8)) : List Lay := if rsE l us = 0 then l.filter (fun x => has us x.u) else []

theorem Tryz.c33 (l : List Lay) (us : List (List UInt8)) (hl : l.length ≤ 1000) (hu : us.length ≤ 2000000) (hc : Con Tryz.prog Tryz.L 45 [.sl l.length (lays l)] (.int .i64 0)) :
    Con Tryz.prog Tryz.L 33 [.sl l.length (lays l), .sl us.length (strs us)] (.tup [.sl (rsL l us).length (lays (rsL l us)), .int .i64 (rsE l us)]) := by
  refine rule33 Tryz.hL rfl rfl rfl ?_
  simp only [pc33, rs33, evA, evB, evC, forall_const, implies_true, initE, stepF, D.clean, mvF, moF, tkF, shF, ariF, ciF, catF, scF, ebF, eqF, eqOk, eqPr, enF, notF, ngF, cvF, csF, csbF, lenF, lenSF, ixF, iaF, PX.slot, iaAF, faF, ldF, D.mem, stF, bxF, mkSF, boundF, fldF, mmF2, D.plain, D.isPure, optAll, D.dull, callVF, splice, D.cells, D.one, sets, resT, D.flat, D.flat0, D.simple, Nat.reduceBNe, Nat.reduceLT, reduceIte, Nat.reduceEqDiff, Nat.reduceAdd, Nat.reduceMul, Nat.reduceSub, Nat.reduceLeDiff, Int.reduceToNat, Int.reduceLT, Int.reduceLE, Int.reduceEq, Int.reduceNeg, Int.reduceSub, Int.reduceAdd, Int.reduceMul]
  refine callF_of hc ?_
  simp only [evA, evB, evC, forall_const, implies_true, initE, stepF, D.clean, mvF, moF, tkF, shF, ariF, ciF, catF, scF, ebF, eqF, eqOk, eqPr, enF, notF, ngF, cvF, csF, csbF, lenF, lenSF, ixF, iaF, PX.slot, iaAF, faF, ldF, D.mem, stF, bxF, mkSF, boundF, fldF, mmF2, D.plain, D.isPure, optAll, D.dull, callVF, splice, D.cells, D.one, sets, resT, D.flat, D.flat0, D.simple, Nat.reduceBNe, Nat.reduceLT, reduceIte, Nat.reduceEqDiff, Nat.reduceAdd, Nat.reduceMul, Nat.reduceSub, Nat.reduceLeDiff, Int.reduceToNat, Int.reduceLT, Int.reduceLE, Int.reduceEq, Int.reduceNeg, Int.reduceSub, Int.reduceAdd, Int.reduceMul]
  refine ⟨fun h0 => ?_, fun h0 => ?_⟩
  · have : us = [] := List.eq_nil_of_length_eq_zero (by omega)
    subst this
    rfl
  · have hn : us ≠ [] := fun h => h0 (by rw [h]; rfl)
    have eE : rsE l us = rsA l [] us := if_neg hn
    refine loopF_of (fun E => ∃ k : Nat, k ≤ us.length ∧ rsA l [] us = rsA l (us.take k) (us.drop k) ∧ E = [(0, .sl l.length (lays l)), (1, .sl us.length (strs us)), (20, .sl us.length (strs us)), (21, .int .i64 us.length), (22, .int .i64 k)])
      (fun E => match lk E 22 with | .int _ i => us.length - i.toNat | _ => 0) ⟨0, Nat.zero_le _, rfl, rfl⟩ ?_
    rintro _ ⟨k, hk, hi, rfl⟩
    simp only [evA, evB, evC, forall_const, implies_true, initE, stepF, D.clean, mvF, moF, tkF, shF, ariF, ciF, catF, scF, ebF, eqF, eqOk, eqPr, enF, notF, ngF, cvF, csF, csbF, lenF, lenSF, ixF, iaF, PX.slot, iaAF, faF, ldF, D.mem, stF, bxF, mkSF, boundF, fldF, mmF2, D.plain, D.isPure, optAll, D.dull, callVF, splice, D.cells, D.one, sets, resT, D.flat, D.flat0, D.simple, Nat.reduceBNe, Nat.reduceLT, reduceIte, Nat.reduceEqDiff, Nat.reduceAdd, Nat.reduceMul, Nat.reduceSub, Nat.reduceLeDiff, Int.reduceToNat, Int.reduceLT, Int.reduceLE, Int.reduceEq, Int.reduceNeg, Int.reduceSub, Int.reduceAdd, Int.reduceMul, ldC_strs]
    refine ⟨fun h1 => ?_, fun h1 => ?_⟩
    · have hx : us[k]? = some (us[k]'(by omega)) := List.getElem?_eq_getElem (by omega)
      have ht : us.take (k + 1) = us.take k ++ [us[k]'(by omega)] := List.take_succ_eq_append_getElem (by omega)
      generalize us[k]'(by omega) = u at hx ht
      rw [drop_cons hx] at hi
      simp only [rsA] at hi
      refine ⟨⟨by omega, by rw [strs_length]; omega⟩, u, hx, ?_⟩
      refine callF_of (show Con Tryz.prog Tryz.L 56 _ (.int .i64 (pos l u)) from Tryz.c56 l u hl) ?_
      simp only [evA, evB, evC, forall_const, implies_true, initE, stepF, D.clean, mvF, moF, tkF, shF, ariF, ciF, catF, scF, ebF, eqF, eqOk, eqPr, enF, notF, ngF, cvF, csF, csbF, lenF, lenSF, ixF, iaF, PX.slot, iaAF, faF, ldF, D.mem, stF, bxF, mkSF, boundF, fldF, mmF2, D.plain, D.isPure, optAll, D.dull, callVF, splice, D.cells, D.one, sets, resT, D.flat, D.flat0, D.simple, Nat.reduceBNe, Nat.reduceLT, reduceIte, Nat.reduceEqDiff, Nat.reduceAdd, Nat.reduceMul, Nat.reduceSub, Nat.reduceLeDiff, Int.reduceToNat, Int.reduceLT, Int.reduceLE, Int.reduceEq, Int.reduceNeg, Int.reduceSub, Int.reduceAdd, Int.reduceMul]
      have bad : rsE l us ≠ 0 → rsL l us = [] := fun h => if_neg h
      refine ⟨fun h2 => ?_, fun h2 => ⟨by omega, by omega, by omega, by rw [strs_length], ?_⟩⟩
      · have e1 : rsE l us = 10 := by rw [eE, hi, if_pos h2]
        rw [bad (by rw [e1]; omega), e1]; rfl
      · rw [cut_rows sD_len, List.drop_zero]
        have h39 := Tryz.c39 (us.take k) u (by rw [List.length_take]; omega)
        rw [show (us.take k).length = k by rw [List.length_take]; omega] at h39
        refine callF_of h39 ?_
        simp only [evA, evB, evC, forall_const, implies_true, initE, stepF, D.clean, mvF, moF, tkF, shF, ariF, ciF, catF, scF, ebF, eqF, eqOk, eqPr, enF, notF, ngF, cvF, csF, csbF, lenF, lenSF, ixF, iaF, PX.slot, iaAF, faF, ldF, D.mem, stF, bxF, mkSF, boundF, fldF, mmF2, D.plain, D.isPure, optAll, D.dull, callVF, splice, D.cells, D.one, sets, resT, D.flat, D.flat0, D.simple, Nat.reduceBNe, Nat.reduceLT, reduceIte, Nat.reduceEqDiff, Nat.reduceAdd, Nat.reduceMul, Nat.reduceSub, Nat.reduceLeDiff, Int.reduceToNat, Int.reduceLT, Int.reduceLE, Int.reduceEq, Int.reduceNeg, Int.reduceSub, Int.reduceAdd, Int.reduceMul]
        refine ⟨fun h3 => ?_, fun h3 => ⟨by omega, ⟨k + 1, by omega, ?_, rfl⟩, by omega⟩⟩
        · have e1 : rsE l us = 9 := by rw [eE, hi, if_neg h2, if_pos (show has (us.take k) u = true from dB_iff.2 h3)]
          rw [bad (by rw [e1]; omega), e1]; rfl
        · rw [hi, if_neg h2, if_neg (show ¬has (us.take k) u = true from fun h => h3 (dB_iff.1 h)), ht]
    · have : k = us.length := by omega
      subst this
      rw [List.drop_length] at hi
      have e1 : rsE l us = 0 := by rw [eE, hi]; rfl
      have e2 : rsL l us = l.filter (fun x => has us x.u) := if_pos e1
      rw [e1, e2]
      refine loopF_of (fun E => ∃ k : Nat, k ≤ l.length ∧ E = [(1, .sl us.length (strs us)), (9, .own true 39 ((l.take k).filter (fun x => has us x.u)).length (lays ((l.take k).filter (fun x => has us x.u)))), (37, .sl l.length (lays l)), (38, .int .i64 l.length), (39, .int .i64 k)])
        (fun E => match lk E 39 with | .int _ i => l.length - i.toNat | _ => 0) ⟨0, Nat.zero_le _, rfl⟩ ?_
      rintro _ ⟨k, hk, rfl⟩
      simp only [evA, evB, evC, forall_const, implies_true, initE, stepF, D.clean, mvF, moF, tkF, shF, ariF, ciF, catF, scF, ebF, eqF, eqOk, eqPr, enF, notF, ngF, cvF, csF, csbF, lenF, lenSF, ixF, iaF, PX.slot, iaAF, faF, ldF, D.mem, stF, bxF, mkSF, boundF, fldF, mmF2, D.plain, D.isPure, optAll, D.dull, callVF, splice, D.cells, D.one, sets, resT, D.flat, D.flat0, D.simple, Nat.reduceBNe, Nat.reduceLT, reduceIte, Nat.reduceEqDiff, Nat.reduceAdd, Nat.reduceMul, Nat.reduceSub, Nat.reduceLeDiff, Int.reduceToNat, Int.reduceLT, Int.reduceLE, Int.reduceEq, Int.reduceNeg, Int.reduceSub, Int.reduceAdd, Int.reduceMul, ldC_lays, Lay.d]
      refine ⟨fun h1 => ?_, fun h1 => ?_⟩
      · have hx : l[k]? = some (l[k]'(by omega)) := List.getElem?_eq_getElem (by omega)
        have ht : l.take (k + 1) = l.take k ++ [l[k]'(by omega)] := List.take_succ_eq_append_getElem (by omega)
        generalize l[k]'(by omega) = x at hx ht
        refine ⟨⟨by omega, by rw [rows_length Lay.d_len]; omega⟩, x, hx, ?_⟩
        refine callF_of (Tryz.c39 us x.u hu) ?_
        simp only [evA, evB, evC, forall_const, implies_true, initE, stepF, D.clean, mvF, moF, tkF, shF, ariF, ciF, catF, scF, ebF, eqF, eqOk, eqPr, enF, notF, ngF, cvF, csF, csbF, lenF, lenSF, ixF, iaF, PX.slot, iaAF, faF, ldF, D.mem, stF, bxF, mkSF, boundF, fldF, mmF2, D.plain, D.isPure, optAll, D.dull, callVF, splice, D.cells, D.one, sets, resT, D.flat, D.flat0, D.simple, Nat.reduceBNe, Nat.reduceLT, reduceIte, Nat.reduceEqDiff, Nat.reduceAdd, Nat.reduceMul, Nat.reduceSub, Nat.reduceLeDiff, Int.reduceToNat, Int.reduceLT, Int.reduceLE, Int.reduceEq, Int.reduceNeg, Int.reduceSub, Int.reduceAdd, Int.reduceMul]
        have hlen : ((l.take k).filter (fun x => has us x.u)).length ≤ 1000 := Nat.le_trans (List.length_filter_le _ _) (by rw [List.length_take]; omega)
        refine ⟨fun h2 => ⟨by omega, by omega, by omega, ⟨k + 1, by omega, ?_, rfl⟩, by omega⟩, fun h2 => ⟨by omega, ⟨k + 1, by omega, ?_, rfl⟩, by omega⟩⟩
        · rw [ht, List.filter_append, show List.filter (fun x => has us x.u) [x] = [x] from List.filter_cons_of_pos (p := fun x : Lay => has us x.u) (show has us x.u = true from dB_iff.2 h2), ← snocL _ x rfl]
        · rw [ht, List.filter_append, show List.filter (fun x => has us x.u) [x] = [] from List.filter_cons_of_neg (p := fun x : Lay => has us x.u) (show ¬has us x.u = true from fun h => h2 (dB_iff.1 h)), List.append_nil]
      · have : k = l.length := by omega
        subst this
        rw [List.take_length]; rfl
end Go.Proofs

/-
  SEAT 22: joins of columns: the plain law. Own work.
-/
namespace Go.Proofs
open Go Go.Pi Go.RowKit

theorem pos_nil {u : List UInt8} : pos [] u = -1 := rfl
theorem idxA_shift {α : Type} {p : α → Bool} : ∀ (l : List α) (k : Nat), (idxA p l k = -1 ∧ idxA p l (k + 1) = -1) ∨ (0 ≤ idxA p l k ∧ idxA p l (k + 1) = idxA p l k + 1)
  | [], _ => .inl ⟨rfl, rfl⟩
  | x :: l, k => by
    simp only [idxA]
    split
    · right; omega
    · exact idxA_shift l (k + 1)
theorem pos_cons {y : Lay} {l : List Lay} {u : List UInt8} : (y.u = u ∧ pos (y :: l) u = 0) ∨ (y.u ≠ u ∧ pos l u = -1 ∧ pos (y :: l) u = -1) ∨ (y.u ≠ u ∧ 0 ≤ pos l u ∧ pos (y :: l) u = pos l u + 1) := by
  by_cases h : y.u = u
  · left; refine ⟨h, ?_⟩; show idxA _ _ _ = _; simp [idxA, h]
  · right
    have e : pos (y :: l) u = idxA (fun x : Lay => x.u == u) l 1 := by show idxA _ _ _ = _; simp [idxA, h]
    rcases idxA_shift (p := fun x : Lay => x.u == u) l 0 with ⟨h1, h2⟩ | ⟨h1, h2⟩
    · exact .inl ⟨h, h1, by rw [e]; exact h2⟩
    · exact .inr ⟨h, h1, by rw [e]; exact h2⟩
theorem pos_neg {l : List Lay} {u : List UInt8} : pos l u < 0 ↔ ∀ x ∈ l, x.u ≠ u := by
  induction l with
  | nil => rw [pos_nil]; simp
  | cons y l ih =>
    rcases pos_cons (y := y) (l := l) (u := u) with ⟨h1, h2⟩ | ⟨h1, h2, h3⟩ | ⟨h1, h2, h3⟩
    · rw [h2]; constructor
      · intro h; omega
      · intro h; exact absurd h1 (h y (List.mem_cons_self ..))
    · rw [h3]
      have := ih.1 (by omega)
      constructor
      · intro _ x hx; rcases List.mem_cons.1 hx with rfl | hx
        · exact h1
        · exact this x hx
      · intro _; omega
    · rw [h3]
      constructor
      · intro h; omega
      · intro h
        have := ih.2 fun x hx => h x (List.mem_cons_of_mem _ hx)
        omega
theorem pos_at {l : List Lay} {u : List UInt8} (h : 0 ≤ pos l u) : ∃ y, l[(pos l u).toNat]? = some y ∧ l.find? (fun x => x.u == u) = some y ∧ y.u = u := by
  induction l with
  | nil => rw [pos_nil] at h; omega
  | cons z l ih =>
    rcases pos_cons (y := z) (l := l) (u := u) with ⟨h1, h2⟩ | ⟨h1, h2, h3⟩ | ⟨h1, h2, h3⟩
    · rw [h2]; exact ⟨z, rfl, by simp [List.find?, h1], h1⟩
    · omega
    · obtain ⟨y, e1, e2, e3⟩ := ih h2
      refine ⟨y, ?_, ?_, e3⟩
      · rw [h3, show (pos l u + 1).toNat = (pos l u).toNat + 1 by omega]; exact e1
      · rw [List.find?_cons_of_neg (by simpa using h1)]; exact e2

/-- the steps of a join -/
def jR : Nat → List Lay → List Lay → List Lay → Option (List Lay)
  | 0, _, _, out => some out
  | _ + 1, [], [], out => some out
  | n + 1, [], y :: b, out => jR n [] b (out ++ [y])
  | n + 1, x :: a, [], out => jR n a [] (out ++ [x])
  | n + 1, x :: a, y :: b, out =>
    if pos (y :: b) x.u = 0 then jR n a b (out ++ [x])
    else if pos (y :: b) x.u < 0 then jR n a (y :: b) (out ++ [x])
    else if pos (x :: a) y.u < 0 then jR n (x :: a) b (out ++ [y])
    else none

/-- the same unit with other bounds -/
def cf (b : List Lay) (x : Lay) : Bool := match b.find? (fun y => y.u == x.u) with
  | some y => decide (y ≠ x)
  | none => false
def jnE (a b : List Lay) : Int := if a.any (cf b) = true then 14 else match jR (a.length + b.length) a b [] with
  | none => 27
  | some r => if 60 < r.length then 4 else 0
def jnL (a b : List Lay) : List Lay := if jnE a b = 0 then (jR (a.length + b.length) a b []).getD [] else []

theorem filter_id {α : Type} {p : α → Bool} {l : List α} (h : ∀ x ∈ l, p x = true) : l.filter p = l := List.filter_eq_self.2 h

def inn (b : List Lay) (x : Lay) : Bool := decide (∃ y ∈ b, y.u = x.u)
theorem inn_iff {b : List Lay} {x : Lay} : inn b x = true ↔ ∃ y ∈ b, y.u = x.u := decide_eq_true_iff

/-- what a join is -/
structure JnOk (a b r : List Lay) : Prop where
  fa : r.filter (inn a) = a
  fb : r.filter (inn b) = b
  mem : ∀ x ∈ r, x ∈ a ∨ x ∈ b
  nd : (r.map Lay.u).Nodup
  len : r.length ≤ a.length + b.length

theorem nd_cons {x : Lay} {l : List Lay} : ((x :: l).map Lay.u).Nodup ↔ (∀ y ∈ l, y.u ≠ x.u) ∧ (l.map Lay.u).Nodup := by
  rw [List.map_cons, List.nodup_cons]
  constructor
  · rintro ⟨h1, h2⟩
    exact ⟨fun y hy e => h1 (List.mem_map.2 ⟨y, hy, e⟩), h2⟩
  · rintro ⟨h1, h2⟩
    refine ⟨fun h => ?_, h2⟩
    obtain ⟨y, hy, e⟩ := List.mem_map.1 h
    exact h1 y hy e

theorem nd_inj : ∀ {l : List Lay}, (l.map Lay.u).Nodup → ∀ {x y : Lay}, x ∈ l → y ∈ l → x.u = y.u → x = y
  | [], _, _, _, hx, _, _ => by cases hx
  | w :: l, h, x, y, hx, hy, e => by
    have h' := nd_cons.1 h
    rcases List.mem_cons.1 hx with hx1 | hx1
    · rcases List.mem_cons.1 hy with hy1 | hy1
      · rw [hx1, hy1]
      · exact absurd (by rw [← e, hx1]) (h'.1 y hy1)
    · rcases List.mem_cons.1 hy with hy1 | hy1
      · exact absurd (by rw [e, hy1]) (h'.1 x hx1)
      · exact nd_inj h'.2 hx1 hy1 e
theorem cf_part {a b : List Lay} (ha : (a.map Lay.u).Nodup) (hs : b.Sublist a) : a.any (cf b) = false := by
  rw [List.any_eq_false]
  intro x hx h
  unfold cf at h
  split at h
  · rename_i y hy
    have h1 := List.mem_of_find?_eq_some hy
    have h2 := List.find?_some hy
    exact (of_decide_eq_true h) (nd_inj ha (hs.subset h1) hx (by simpa using h2))
  · cases h

theorem filter_cons_same {x : Lay} {a r : List Lay} (hr : ∀ y ∈ r, y.u ≠ x.u) (h : r.filter (inn a) = a) : (x :: r).filter (inn (x :: a)) = x :: a := by
  rw [List.filter_cons_of_pos (inn_iff.2 ⟨x, List.mem_cons_self .., rfl⟩)]
  congr 1
  rw [← h]
  refine List.filter_congr fun y hy => ?_
  rw [h, Bool.eq_iff_iff, inn_iff, inn_iff]
  constructor
  · rintro ⟨z, hz, e⟩
    rcases List.mem_cons.1 hz with rfl | hz
    · exact absurd e.symm (hr y hy)
    · exact ⟨z, hz, e⟩
  · rintro ⟨z, hz, e⟩; exact ⟨z, List.mem_cons_of_mem _ hz, e⟩
theorem filter_cons_other {x : Lay} {b r : List Lay} (hb : ∀ y ∈ b, y.u ≠ x.u) (h : r.filter (inn b) = b) : (x :: r).filter (inn b) = b := by
  rw [List.filter_cons_of_neg (fun h' => by obtain ⟨y, hy, e⟩ := inn_iff.1 h'; exact hb y hy e), h]

theorem JnOk.left {x : Lay} {a b r : List Lay} (h : JnOk a b r) (ha : ∀ y ∈ a, y.u ≠ x.u) (hb : ∀ y ∈ b, y.u ≠ x.u) : JnOk (x :: a) b (x :: r) := by
  have hr : ∀ y ∈ r, y.u ≠ x.u := fun y hy => (h.mem y hy).elim (ha y) (hb y)
  refine ⟨filter_cons_same hr h.fa, filter_cons_other hb h.fb, fun y hy => ?_, nd_cons.2 ⟨hr, h.nd⟩, by have := h.len; simp only [List.length_cons]; omega⟩
  rcases List.mem_cons.1 hy with rfl | hy
  · exact .inl (List.mem_cons_self ..)
  · exact (h.mem y hy).imp (List.mem_cons_of_mem _) id
theorem JnOk.right {x : Lay} {a b r : List Lay} (h : JnOk a b r) (ha : ∀ y ∈ a, y.u ≠ x.u) (hb : ∀ y ∈ b, y.u ≠ x.u) : JnOk a (x :: b) (x :: r) := by
  have hr : ∀ y ∈ r, y.u ≠ x.u := fun y hy => (h.mem y hy).elim (ha y) (hb y)
  refine ⟨filter_cons_other ha h.fa, filter_cons_same hr h.fb, fun y hy => ?_, nd_cons.2 ⟨hr, h.nd⟩, by have := h.len; simp only [List.length_cons]; omega⟩
  rcases List.mem_cons.1 hy with rfl | hy
  · exact .inr (List.mem_cons_self ..)
  · exact (h.mem y hy).imp id (List.mem_cons_of_mem _)
theorem JnOk.both {x : Lay} {a b r : List Lay} (h : JnOk a b r) (ha : ∀ y ∈ a, y.u ≠ x.u) (hb : ∀ y ∈ b, y.u ≠ x.u) : JnOk (x :: a) (x :: b) (x :: r) := by
  have hr : ∀ y ∈ r, y.u ≠ x.u := fun y hy => (h.mem y hy).elim (ha y) (hb y)
  refine ⟨filter_cons_same hr h.fa, filter_cons_same hr h.fb, fun y hy => ?_, nd_cons.2 ⟨hr, h.nd⟩, by have := h.len; simp only [List.length_cons]; omega⟩
  rcases List.mem_cons.1 hy with rfl | hy
  · exact .inl (List.mem_cons_self ..)
  · exact (h.mem y hy).imp (List.mem_cons_of_mem _) (List.mem_cons_of_mem _)

theorem jR_ok : ∀ (n : Nat) (a b out res : List Lay), a.length + b.length ≤ n → (a.map Lay.u).Nodup → (b.map Lay.u).Nodup → (∀ x ∈ a, ∀ y ∈ b, x.u = y.u → x = y) →
    jR n a b out = some res → ∃ r, res = out ++ r ∧ JnOk a b r
  | 0, a, b, out, res, hn, ha, hb, hc, h => by
    obtain rfl : a = [] := List.eq_nil_of_length_eq_zero (by omega)
    obtain rfl : b = [] := List.eq_nil_of_length_eq_zero (by omega)
    simp only [jR, Option.some.injEq] at h
    exact ⟨[], by simp [h], rfl, rfl, fun x hx => (by cases hx), List.nodup_nil, by simp⟩
  | n + 1, [], [], out, res, hn, ha, hb, hc, h => by
    simp only [jR, Option.some.injEq] at h
    exact ⟨[], by simp [h], rfl, rfl, fun x hx => (by cases hx), List.nodup_nil, by simp⟩
  | n + 1, [], y :: b, out, res, hn, ha, hb, hc, h => by
    simp only [jR] at h
    rw [nd_cons] at hb
    simp only [List.length_cons, List.length_nil] at hn
    obtain ⟨r, e, ok⟩ := jR_ok n [] b _ res (by simp only [List.length_nil]; omega) ha hb.2 (fun x hx => by cases hx) h
    exact ⟨y :: r, by rw [e]; simp, ok.right (fun x hx => by cases hx) hb.1⟩
  | n + 1, x :: a, [], out, res, hn, ha, hb, hc, h => by
    simp only [jR] at h
    rw [nd_cons] at ha
    simp only [List.length_cons, List.length_nil] at hn
    obtain ⟨r, e, ok⟩ := jR_ok n a [] _ res (by simp only [List.length_nil]; omega) ha.2 hb (fun x hx y hy => by cases hy) h
    exact ⟨x :: r, by rw [e]; simp, ok.left ha.1 (fun x hx => by cases hx)⟩
  | n + 1, x :: a, y :: b, out, res, hn, ha, hb, hc, h => by
    simp only [jR] at h
    simp only [List.length_cons] at hn
    have ha' := nd_cons.1 ha
    have hb' := nd_cons.1 hb
    by_cases h0 : pos (y :: b) x.u = 0
    · rw [if_pos h0] at h
      have exy : y.u = x.u := by
        rcases pos_cons (y := y) (l := b) (u := x.u) with ⟨h1, _⟩ | ⟨_, _, h3⟩ | ⟨_, h2, h3⟩
        · exact h1
        · omega
        · omega
      have e1 : x = y := hc x (List.mem_cons_self ..) y (List.mem_cons_self ..) exy.symm
      subst e1
      obtain ⟨r, e, ok⟩ := jR_ok n a b _ res (by omega) ha'.2 hb'.2 (fun p hp q hq => hc p (List.mem_cons_of_mem _ hp) q (List.mem_cons_of_mem _ hq)) h
      exact ⟨x :: r, by rw [e]; simp, ok.both ha'.1 hb'.1⟩
    · rw [if_neg h0] at h
      by_cases h1 : pos (y :: b) x.u < 0
      · rw [if_pos h1] at h
        obtain ⟨r, e, ok⟩ := jR_ok n a (y :: b) _ res (by simp only [List.length_cons]; omega) ha'.2 hb (fun p hp q hq => hc p (List.mem_cons_of_mem _ hp) q hq) h
        exact ⟨x :: r, by rw [e]; simp, ok.left ha'.1 (pos_neg.1 h1)⟩
      · rw [if_neg h1] at h
        by_cases h2 : pos (x :: a) y.u < 0
        · rw [if_pos h2] at h
          obtain ⟨r, e, ok⟩ := jR_ok n (x :: a) b _ res (by simp only [List.length_cons]; omega) ha hb'.2 (fun p hp q hq => hc p hp q (List.mem_cons_of_mem _ hq)) h
          exact ⟨y :: r, by rw [e]; simp, ok.right (pos_neg.1 h2) hb'.1⟩
        · rw [if_neg h2] at h; cases h

/-- a column joined with a part of it -/
theorem jR_part : ∀ (n : Nat) (a b out : List Lay), a.length + b.length ≤ n → (a.map Lay.u).Nodup → b.Sublist a → jR n a b out = some (out ++ a)
  | 0, a, b, out, hn, ha, hs => by
    obtain rfl : a = [] := List.eq_nil_of_length_eq_zero (by omega)
    simp [jR]
  | n + 1, [], [], out, hn, ha, hs => by simp [jR]
  | n + 1, [], y :: b, out, hn, ha, hs => by cases hs
  | n + 1, x :: a, [], out, hn, ha, hs => by
    simp only [jR]
    simp only [List.length_cons, List.length_nil] at hn
    rw [jR_part n a [] _ (by simp only [List.length_nil]; omega) (nd_cons.1 ha).2 (List.nil_sublist _)]
    simp
  | n + 1, x :: a, y :: b, out, hn, ha, hs => by
    simp only [jR]
    simp only [List.length_cons] at hn
    have ha' := nd_cons.1 ha
    cases hs with
    | cons _ hs =>
      have h1 : pos (y :: b) x.u < 0 := pos_neg.2 fun z hz => ha'.1 z (hs.subset hz)
      rw [if_neg (by omega), if_pos h1, jR_part n a (y :: b) _ (by simp only [List.length_cons]; omega) ha'.2 hs]
      simp
    | cons_cons _ hs =>
      have h0 : pos (x :: b) x.u = 0 := by
        rcases pos_cons (y := x) (l := b) (u := x.u) with ⟨_, h⟩ | ⟨h, _⟩ | ⟨h, _⟩
        · exact h
        · exact absurd rfl h
        · exact absurd rfl h
      rw [if_pos h0, jR_part n a b _ (by omega) ha'.2 hs]
      simp

theorem jnE_ok {a b : List Lay} (ha : (a.map Lay.u).Nodup) (hb : (b.map Lay.u).Nodup) (h : jnE a b = 0) : JnOk a b (jnL a b) ∧ (jnL a b).length ≤ 60 := by
  have e1 : jnL a b = (jR (a.length + b.length) a b []).getD [] := if_pos h
  unfold jnE at h
  split at h
  · cases h
  · rename_i hc
    have hc' : ∀ x ∈ a, ∀ y ∈ b, x.u = y.u → x = y := by
      intro x hx y hy e
      have hf : cf b x = false := by
        cases hcx : cf b x with
        | false => rfl
        | true => exact absurd (List.any_eq_true.2 ⟨x, hx, hcx⟩) hc
      have h0 : 0 ≤ pos b x.u := by
        rcases Int.lt_or_le (pos b x.u) 0 with h0 | h0
        · exact absurd e.symm (pos_neg.1 h0 y hy)
        · exact h0
      obtain ⟨z, e1, e2, e3⟩ := pos_at h0
      unfold cf at hf
      rw [e2] at hf
      have hz : z = x := by simpa using hf
      have hzm : z ∈ b := List.mem_of_getElem? e1
      have : z = y := nd_inj hb hzm hy (by rw [e3, e])
      rw [← hz, this]
    revert h e1
    cases hj : jR (a.length + b.length) a b [] with
    | none => intro _ h; cases h
    | some r =>
      intro e1 h
      simp only [Option.getD_some] at e1
      obtain ⟨r', e2, ok⟩ := jR_ok _ a b [] r (Nat.le_refl _) ha hb hc' hj
      simp only [List.nil_append] at e2
      subst e2
      rw [e1]
      refine ⟨ok, ?_⟩
      simp only at h
      split at h
      · cases h
      · omega

theorem jn_part {a b : List Lay} (ha : (a.map Lay.u).Nodup) (hs : b.Sublist a) (hl : a.length ≤ 60) : jnE a b = 0 ∧ jnL a b = a := by
  have hc := cf_part ha hs
  have e := jR_part (a.length + b.length) a b [] (Nat.le_refl _) ha hs
  rw [List.nil_append] at e
  have h0 : jnE a b = 0 := by unfold jnE; rw [if_neg (by simp [hc]), e]; simp only; rw [if_neg (by omega)]
  exact ⟨h0, by unfold jnL; rw [if_pos h0, e]; rfl⟩
end Go.Proofs

/-
  SEAT 22: Join. Own work.
-/
namespace Go.Proofs
open Go Go.Pi Go.RowKit

theorem Tryz.c18 (l : List Lay) (hl : l.length ≤ 1000) : Con Tryz.prog Tryz.L 18 [.sl l.length (lays l), .sl l.length (lays l)] (.bool true) := by
  refine rule18 Tryz.hL rfl rfl rfl ?_
  simp only [pc18, rs18, evA, evB, evC, forall_const, implies_true, initE, stepF, D.clean, mvF, moF, tkF, shF, ariF, ciF, catF, scF, ebF, eqF, eqOk, eqPr, enF, notF, ngF, cvF, csF, csbF, lenF, lenSF, ixF, iaF, PX.slot, iaAF, faF, ldF, D.mem, stF, bxF, mkSF, boundF, fldF, mmF2, D.plain, D.isPure, optAll, D.dull, callVF, splice, D.cells, D.one, sets, resT, D.flat, D.flat0, D.simple, Nat.reduceBNe, Nat.reduceLT, reduceIte, Nat.reduceEqDiff, Nat.reduceAdd, Nat.reduceMul, Nat.reduceSub, Nat.reduceLeDiff, Int.reduceToNat, Int.reduceLT, Int.reduceLE, Int.reduceEq, Int.reduceNeg, Int.reduceSub, Int.reduceAdd, Int.reduceMul]
  refine loopF_of (fun E => ∃ k : Nat, k ≤ l.length ∧ E = [(0, .sl l.length (lays l)), (1, .sl l.length (lays l)), (12, .int .i64 l.length), (13, .int .i64 k)])
    (fun E => match lk E 13 with | .int _ i => l.length - i.toNat | _ => 0) ⟨0, Nat.zero_le _, rfl⟩ ?_
  rintro _ ⟨k, hk, rfl⟩
  simp only [evA, evB, evC, forall_const, implies_true, initE, stepF, D.clean, mvF, moF, tkF, shF, ariF, ciF, catF, scF, ebF, eqF, eqOk, eqPr, enF, notF, ngF, cvF, csF, csbF, lenF, lenSF, ixF, iaF, PX.slot, iaAF, faF, ldF, D.mem, stF, bxF, mkSF, boundF, fldF, mmF2, D.plain, D.isPure, optAll, D.dull, callVF, splice, D.cells, D.one, sets, resT, D.flat, D.flat0, D.simple, Nat.reduceBNe, Nat.reduceLT, reduceIte, Nat.reduceEqDiff, Nat.reduceAdd, Nat.reduceMul, Nat.reduceSub, Nat.reduceLeDiff, Int.reduceToNat, Int.reduceLT, Int.reduceLE, Int.reduceEq, Int.reduceNeg, Int.reduceSub, Int.reduceAdd, Int.reduceMul, ldC_lays, Lay.d]
  intro h1
  have hx : l[k]? = some (l[k]'(by omega)) := List.getElem?_eq_getElem (by omega)
  generalize l[k]'(by omega) = x at hx
  refine ⟨⟨by omega, by rw [rows_length Lay.d_len]; omega⟩, x, hx, ⟨by omega, by rw [rows_length Lay.d_len]; omega⟩, x, hx, ?_⟩
  simp only [evA, evB, evC, forall_const, implies_true, initE, stepF, D.clean, mvF, moF, tkF, shF, ariF, ciF, catF, scF, ebF, eqF, eqOk, eqPr, enF, notF, ngF, cvF, csF, csbF, lenF, lenSF, ixF, iaF, PX.slot, iaAF, faF, ldF, D.mem, stF, bxF, mkSF, boundF, fldF, mmF2, D.plain, D.isPure, optAll, D.dull, callVF, splice, D.cells, D.one, sets, resT, D.flat, D.flat0, D.simple, Nat.reduceBNe, Nat.reduceLT, reduceIte, Nat.reduceEqDiff, Nat.reduceAdd, Nat.reduceMul, Nat.reduceSub, Nat.reduceLeDiff, Int.reduceToNat, Int.reduceLT, Int.reduceLE, Int.reduceEq, Int.reduceNeg, Int.reduceSub, Int.reduceAdd, Int.reduceMul]
  exact ⟨by omega, ⟨k + 1, by omega, rfl⟩, by omega⟩

theorem lays_cons {x : Lay} {l : List Lay} : lays (x :: l) = .str x.u :: .str x.a :: .str x.b :: lays l := rfl
theorem lays_nil : lays [] = [] := rfl
theorem z_lt : (0 < ((0 : Nat) : Int)) = False := by simp
theorem s_lt {n : Nat} : (0 < ((n + 1 : Nat) : Int)) = True := by rw [eq_iff_iff]; constructor <;> intro _ <;> first | trivial | omega
theorem cut_one {x : Lay} {q : List Lay} : cut 3 1 (q.length + 1) (.str x.u :: .str x.a :: .str x.b :: lays q) = lays q := by
  have h : cut 3 1 (q.length + 1) (rows Lay.d (x :: q)) = rows Lay.d (List.drop 1 (List.take (q.length + 1) (x :: q))) := cut_rows Lay.d_len
  rw [show (List.take (q.length + 1) (x :: q)).drop 1 = q by simp] at h
  exact h
theorem any_drop {b : List Lay} {l : List Lay} {k : Nat} {x : Lay} (h : l[k]? = some x) : (l.drop k).any (cf b) = (cf b x || (l.drop (k + 1)).any (cf b)) := by rw [drop_cons h, List.any_cons]

set_option maxHeartbeats 2000000 in
theorem Tryz.c17 (a b : List Lay) (hab : a.length + b.length ≤ 1000) (hca : Con Tryz.prog Tryz.L 45 [.sl a.length (lays a)] (.int .i64 0)) (hcb : Con Tryz.prog Tryz.L 45 [.sl b.length (lays b)] (.int .i64 0)) :
    Con Tryz.prog Tryz.L 17 [.sl a.length (lays a), .sl b.length (lays b)] (.tup [.sl (jnL a b).length (lays (jnL a b)), .int .i64 (jnE a b)]) := by
  have ha : a.length ≤ 1000 := by omega
  have hb : b.length ≤ 1000 := by omega
  refine rule17 Tryz.hL rfl rfl rfl ?_
  simp only [pc17, rs17, evA, evB, evC, forall_const, implies_true, initE, stepF, D.clean, mvF, moF, tkF, shF, ariF, ciF, catF, scF, ebF, eqF, eqOk, eqPr, enF, notF, ngF, cvF, csF, csbF, lenF, lenSF, ixF, iaF, PX.slot, iaAF, faF, ldF, D.mem, stF, bxF, mkSF, boundF, fldF, mmF2, D.plain, D.isPure, optAll, D.dull, callVF, splice, D.cells, D.one, sets, resT, D.flat, D.flat0, D.simple, Nat.reduceBNe, Nat.reduceLT, reduceIte, Nat.reduceEqDiff, Nat.reduceAdd, Nat.reduceMul, Nat.reduceSub, Nat.reduceLeDiff, Int.reduceToNat, Int.reduceLT, Int.reduceLE, Int.reduceEq, Int.reduceNeg, Int.reduceSub, Int.reduceAdd, Int.reduceMul]
  refine loopF_of (fun E => ∃ k : Nat, k ≤ 2 ∧ E = [(0, .sl a.length (lays a)), (1, .sl b.length (lays b)), (15, .own true 28 2 [.sl a.length (lays a), .sl b.length (lays b)]), (16, .int .i64 2), (17, .int .i64 k)])
    (fun E => match lk E 17 with | .int _ i => 2 - i.toNat | _ => 0) ⟨0, Nat.zero_le _, rfl⟩ ?_
  rintro _ ⟨k, hk, rfl⟩
  have hk3 : k = 0 ∨ k = 1 ∨ k = 2 := by omega
  rcases hk3 with rfl | rfl | rfl
  · simp only [evA, evB, evC, forall_const, implies_true, initE, stepF, D.clean, mvF, moF, tkF, shF, ariF, ciF, catF, scF, ebF, eqF, eqOk, eqPr, enF, notF, ngF, cvF, csF, csbF, lenF, lenSF, ixF, iaF, PX.slot, iaAF, faF, ldF, D.mem, stF, bxF, mkSF, boundF, fldF, mmF2, D.plain, D.isPure, optAll, D.dull, callVF, splice, D.cells, D.one, sets, resT, D.flat, D.flat0, D.simple, Nat.reduceBNe, Nat.reduceLT, reduceIte, Nat.reduceEqDiff, Nat.reduceAdd, Nat.reduceMul, Nat.reduceSub, Nat.reduceLeDiff, Int.reduceToNat, Int.reduceLT, Int.reduceLE, Int.reduceEq, Int.reduceNeg, Int.reduceSub, Int.reduceAdd, Int.reduceMul]
    refine ⟨fun _ => ⟨by omega, ?_⟩, fun h => by omega⟩
    refine callF_of hca ?_
    simp only [evA, evB, evC, forall_const, implies_true, initE, stepF, D.clean, mvF, moF, tkF, shF, ariF, ciF, catF, scF, ebF, eqF, eqOk, eqPr, enF, notF, ngF, cvF, csF, csbF, lenF, lenSF, ixF, iaF, PX.slot, iaAF, faF, ldF, D.mem, stF, bxF, mkSF, boundF, fldF, mmF2, D.plain, D.isPure, optAll, D.dull, callVF, splice, D.cells, D.one, sets, resT, D.flat, D.flat0, D.simple, Nat.reduceBNe, Nat.reduceLT, reduceIte, Nat.reduceEqDiff, Nat.reduceAdd, Nat.reduceMul, Nat.reduceSub, Nat.reduceLeDiff, Int.reduceToNat, Int.reduceLT, Int.reduceLE, Int.reduceEq, Int.reduceNeg, Int.reduceSub, Int.reduceAdd, Int.reduceMul]
    exact ⟨by omega, ⟨1, by omega, rfl⟩, by omega⟩
  · simp only [evA, evB, evC, forall_const, implies_true, initE, stepF, D.clean, mvF, moF, tkF, shF, ariF, ciF, catF, scF, ebF, eqF, eqOk, eqPr, enF, notF, ngF, cvF, csF, csbF, lenF, lenSF, ixF, iaF, PX.slot, iaAF, faF, ldF, D.mem, stF, bxF, mkSF, boundF, fldF, mmF2, D.plain, D.isPure, optAll, D.dull, callVF, splice, D.cells, D.one, sets, resT, D.flat, D.flat0, D.simple, Nat.reduceBNe, Nat.reduceLT, reduceIte, Nat.reduceEqDiff, Nat.reduceAdd, Nat.reduceMul, Nat.reduceSub, Nat.reduceLeDiff, Int.reduceToNat, Int.reduceLT, Int.reduceLE, Int.reduceEq, Int.reduceNeg, Int.reduceSub, Int.reduceAdd, Int.reduceMul]
    refine ⟨fun _ => ⟨by omega, ?_⟩, fun h => by omega⟩
    refine callF_of hcb ?_
    simp only [evA, evB, evC, forall_const, implies_true, initE, stepF, D.clean, mvF, moF, tkF, shF, ariF, ciF, catF, scF, ebF, eqF, eqOk, eqPr, enF, notF, ngF, cvF, csF, csbF, lenF, lenSF, ixF, iaF, PX.slot, iaAF, faF, ldF, D.mem, stF, bxF, mkSF, boundF, fldF, mmF2, D.plain, D.isPure, optAll, D.dull, callVF, splice, D.cells, D.one, sets, resT, D.flat, D.flat0, D.simple, Nat.reduceBNe, Nat.reduceLT, reduceIte, Nat.reduceEqDiff, Nat.reduceAdd, Nat.reduceMul, Nat.reduceSub, Nat.reduceLeDiff, Int.reduceToNat, Int.reduceLT, Int.reduceLE, Int.reduceEq, Int.reduceNeg, Int.reduceSub, Int.reduceAdd, Int.reduceMul]
    exact ⟨by omega, ⟨2, by omega, rfl⟩, by omega⟩
  · simp only [evA, evB, evC, forall_const, implies_true, initE, stepF, D.clean, mvF, moF, tkF, shF, ariF, ciF, catF, scF, ebF, eqF, eqOk, eqPr, enF, notF, ngF, cvF, csF, csbF, lenF, lenSF, ixF, iaF, PX.slot, iaAF, faF, ldF, D.mem, stF, bxF, mkSF, boundF, fldF, mmF2, D.plain, D.isPure, optAll, D.dull, callVF, splice, D.cells, D.one, sets, resT, D.flat, D.flat0, D.simple, Nat.reduceBNe, Nat.reduceLT, reduceIte, Nat.reduceEqDiff, Nat.reduceAdd, Nat.reduceMul, Nat.reduceSub, Nat.reduceLeDiff, Int.reduceToNat, Int.reduceLT, Int.reduceLE, Int.reduceEq, Int.reduceNeg, Int.reduceSub, Int.reduceAdd, Int.reduceMul]
    refine ⟨fun h => by omega, fun _ => ?_⟩
    refine loopF_of (fun E => ∃ k : Nat, k ≤ a.length ∧ a.any (cf b) = (a.drop k).any (cf b) ∧ E = [(0, .sl a.length (lays a)), (1, .sl b.length (lays b)), (27, .sl a.length (lays a)), (28, .int .i64 a.length), (29, .int .i64 k)])
      (fun E => match lk E 29 with | .int _ i => a.length - i.toNat | _ => 0) ⟨0, Nat.zero_le _, rfl, rfl⟩ ?_
    rintro _ ⟨k, hk, hi, rfl⟩
    simp only [evA, evB, evC, forall_const, implies_true, initE, stepF, D.clean, mvF, moF, tkF, shF, ariF, ciF, catF, scF, ebF, eqF, eqOk, eqPr, enF, notF, ngF, cvF, csF, csbF, lenF, lenSF, ixF, iaF, PX.slot, iaAF, faF, ldF, D.mem, stF, bxF, mkSF, boundF, fldF, mmF2, D.plain, D.isPure, optAll, D.dull, callVF, splice, D.cells, D.one, sets, resT, D.flat, D.flat0, D.simple, Nat.reduceBNe, Nat.reduceLT, reduceIte, Nat.reduceEqDiff, Nat.reduceAdd, Nat.reduceMul, Nat.reduceSub, Nat.reduceLeDiff, Int.reduceToNat, Int.reduceLT, Int.reduceLE, Int.reduceEq, Int.reduceNeg, Int.reduceSub, Int.reduceAdd, Int.reduceMul, ldC_lays, Lay.d]
    refine ⟨fun h1 => ?_, fun h1 => ?_⟩
    · have hx : a[k]? = some (a[k]'(by omega)) := List.getElem?_eq_getElem (by omega)
      generalize a[k]'(by omega) = x at hx
      rw [any_drop hx] at hi
      refine ⟨⟨by omega, by rw [rows_length Lay.d_len]; omega⟩, x, hx, ?_⟩
      refine callF_of (show Con Tryz.prog Tryz.L 56 _ (.int .i64 (pos b x.u)) from Tryz.c56 b x.u hb) ?_
      simp only [evA, evB, evC, forall_const, implies_true, initE, stepF, D.clean, mvF, moF, tkF, shF, ariF, ciF, catF, scF, ebF, eqF, eqOk, eqPr, enF, notF, ngF, cvF, csF, csbF, lenF, lenSF, ixF, iaF, PX.slot, iaAF, faF, ldF, D.mem, stF, bxF, mkSF, boundF, fldF, mmF2, D.plain, D.isPure, optAll, D.dull, callVF, splice, D.cells, D.one, sets, resT, D.flat, D.flat0, D.simple, Nat.reduceBNe, Nat.reduceLT, reduceIte, Nat.reduceEqDiff, Nat.reduceAdd, Nat.reduceMul, Nat.reduceSub, Nat.reduceLeDiff, Int.reduceToNat, Int.reduceLT, Int.reduceLE, Int.reduceEq, Int.reduceNeg, Int.reduceSub, Int.reduceAdd, Int.reduceMul, ldC_lays, Lay.d]
      have e14 : cf b x = true → jnE a b = 14 ∧ jnL a b = [] := fun h => by
        have h1 : jnE a b = 14 := if_pos (by rw [hi, h]; rfl)
        exact ⟨h1, if_neg (by rw [h1]; decide)⟩
      have fin : cf b x = false → (-9223372036854775808 ≤ (k : Int) + 1 ∧ (k : Int) + 1 ≤ 9223372036854775807) ∧ (∃ k_1 : Nat, k_1 ≤ a.length ∧ a.any (cf b) = (List.drop k_1 a).any (cf b) ∧ (29, D.int IntKind.i64 ((k : Int) + 1)) = (29, D.int IntKind.i64 k_1)) ∧ a.length - ((k : Int) + 1).toNat < a.length - k := fun h => ⟨by omega, ⟨k + 1, by omega, by rw [hi, h]; rfl, rfl⟩, by omega⟩
      refine ⟨fun h0 => ?_, fun h0 => fin ?_⟩
      · obtain ⟨y, q1, q2, q3⟩ := pos_at h0
        have hlo := pos_lo (l := b) (u := x.u)
        have ecf : cf b x = decide (y ≠ x) := by unfold cf; rw [q2]
        refine ⟨⟨h0, by omega, by rw [rows_length Lay.d_len]; omega⟩, y, q1, fun h2 => ?_, fun h2 => fin ?_⟩
        · obtain ⟨e1, e2⟩ := e14 (by rw [ecf]; exact decide_eq_true fun e => h2 (by rw [e]; exact ⟨rfl, rfl, rfl⟩))
          rw [e1, e2]; rfl
        · rw [ecf]
          refine decide_eq_false fun h => h ?_
          obtain ⟨z1, z2, z3⟩ := Decidable.of_not_not h2
          cases y; cases x; simp_all
      · have h1 := pos_neg.1 (show pos b x.u < 0 by omega)
        unfold cf
        rw [List.find?_eq_none.2 fun y hy => by simpa using h1 y hy]
    · have : k = a.length := by omega
      subst this
      rw [List.drop_length] at hi
      clear h1 hk
      have eE : jnE a b = match jR (a.length + b.length) a b [] with | none => 27 | some r => if 60 < r.length then 4 else 0 := if_neg (by rw [hi]; simp)
      refine loopF_of (fun E => ∃ (n : Nat) (p q out : List Lay), p.length + q.length ≤ n ∧ p.length + q.length + out.length ≤ 1000 ∧ jR (a.length + b.length) a b [] = jR n p q out ∧ E = [(0, .sl p.length (lays p)), (1, .sl q.length (lays q)), (12, .own true 39 out.length (lays out))])
        (fun E => match lk E 0, lk E 1 with | .sl m _, .sl n _ => m + n | _, _ => 0) ⟨_, a, b, [], Nat.le_refl _, by simp only [List.length_nil]; omega, rfl, rfl⟩ ?_
      rintro _ ⟨n, p, q, out, hn, hsz, hj, rfl⟩
      rw [hj] at eE
      have eL : jnL a b = if jnE a b = 0 then (jR n p q out).getD [] else [] := by unfold jnL; rw [hj]
      clear hi
      rcases p with _ | ⟨x, p⟩ <;> rcases q with _ | ⟨y, q⟩
      · have ej : jR n [] [] out = some out := by cases n <;> rfl
        rw [ej] at eE eL
        simp only [evA, evB, evC, forall_const, implies_true, initE, stepF, D.clean, mvF, moF, tkF, shF, ariF, ciF, catF, scF, ebF, eqF, eqOk, eqPr, enF, notF, ngF, cvF, csF, csbF, lenF, lenSF, ixF, iaF, PX.slot, iaAF, faF, ldF, D.mem, stF, bxF, mkSF, boundF, fldF, mmF2, D.plain, D.isPure, optAll, D.dull, callVF, splice, D.cells, D.one, sets, resT, D.flat, D.flat0, D.simple, Nat.reduceBNe, Nat.reduceLT, reduceIte, Nat.reduceEqDiff, Nat.reduceAdd, Nat.reduceMul, Nat.reduceSub, Nat.reduceLeDiff, Int.reduceToNat, Int.reduceLT, Int.reduceLE, Int.reduceEq, Int.reduceNeg, Int.reduceSub, Int.reduceAdd, Int.reduceMul, z_lt, s_lt, lays_nil]
        simp only at eE
        simp only [Option.getD_some] at eL
        refine ⟨fun h => ?_, fun h => ?_⟩
        · rw [if_pos (by omega)] at eE
          rw [eE] at eL ⊢
          rw [if_neg (by decide)] at eL
          rw [eL]; rfl
        · rw [if_neg (by omega)] at eE
          rw [eE] at eL ⊢
          rw [if_pos rfl] at eL
          rw [eL]; rfl
      · obtain ⟨n, rfl⟩ : ∃ m, n = m + 1 := ⟨n - 1, by simp only [List.length_cons, List.length_nil] at hn; omega⟩
        simp only [List.length_cons, List.length_nil] at hn hsz
        have hst : jR (n + 1) [] (y :: q) out = jR n [] q (out ++ [y]) := rfl
        have h56 := Tryz.c56 [] y.u (by simp)
        rw [show idx (fun x : Lay => x.u == y.u) [] = -1 from rfl] at h56
        simp only [lays_nil, List.length_nil] at h56
        simp only [evA, evB, evC, forall_const, implies_true, initE, stepF, D.clean, mvF, moF, tkF, shF, ariF, ciF, catF, scF, ebF, eqF, eqOk, eqPr, enF, notF, ngF, cvF, csF, csbF, lenF, lenSF, ixF, iaF, PX.slot, iaAF, faF, ldF, D.mem, stF, bxF, mkSF, boundF, fldF, mmF2, D.plain, D.isPure, optAll, D.dull, callVF, splice, D.cells, D.one, sets, resT, D.flat, D.flat0, D.simple, Nat.reduceBNe, Nat.reduceLT, reduceIte, Nat.reduceEqDiff, Nat.reduceAdd, Nat.reduceMul, Nat.reduceSub, Nat.reduceLeDiff, Int.reduceToNat, Int.reduceLT, Int.reduceLE, Int.reduceEq, Int.reduceNeg, Int.reduceSub, Int.reduceAdd, Int.reduceMul, z_lt, s_lt, lays_cons, lays_nil]
        refine callF_of h56 ?_
        simp only [evA, evB, evC, forall_const, implies_true, initE, stepF, D.clean, mvF, moF, tkF, shF, ariF, ciF, catF, scF, ebF, eqF, eqOk, eqPr, enF, notF, ngF, cvF, csF, csbF, lenF, lenSF, ixF, iaF, PX.slot, iaAF, faF, ldF, D.mem, stF, bxF, mkSF, boundF, fldF, mmF2, D.plain, D.isPure, optAll, D.dull, callVF, splice, D.cells, D.one, sets, resT, D.flat, D.flat0, D.simple, Nat.reduceBNe, Nat.reduceLT, reduceIte, Nat.reduceEqDiff, Nat.reduceAdd, Nat.reduceMul, Nat.reduceSub, Nat.reduceLeDiff, Int.reduceToNat, Int.reduceLT, Int.reduceLE, Int.reduceEq, Int.reduceNeg, Int.reduceSub, Int.reduceAdd, Int.reduceMul, z_lt, s_lt]
        exact ⟨by omega, by omega, by omega, by omega, by rw [rows_length Lay.d_len]; omega, ⟨n, [], q, out ++ [y], by simp only [List.length_nil]; omega, by simp only [List.length_nil, List.length_append, List.length_singleton]; omega, hj.trans hst, rfl, by rw [cut_one]; rfl, congrArg (Prod.mk 12) (snocL out y rfl)⟩, by omega⟩
      · obtain ⟨n, rfl⟩ : ∃ m, n = m + 1 := ⟨n - 1, by simp only [List.length_cons, List.length_nil] at hn; omega⟩
        simp only [List.length_cons, List.length_nil] at hn hsz
        have hst : jR (n + 1) (x :: p) [] out = jR n p [] (out ++ [x]) := rfl
        have h56 := Tryz.c56 [] x.u (by simp)
        rw [show idx (fun y : Lay => y.u == x.u) [] = -1 from rfl] at h56
        simp only [lays_nil, List.length_nil] at h56
        simp only [evA, evB, evC, forall_const, implies_true, initE, stepF, D.clean, mvF, moF, tkF, shF, ariF, ciF, catF, scF, ebF, eqF, eqOk, eqPr, enF, notF, ngF, cvF, csF, csbF, lenF, lenSF, ixF, iaF, PX.slot, iaAF, faF, ldF, D.mem, stF, bxF, mkSF, boundF, fldF, mmF2, D.plain, D.isPure, optAll, D.dull, callVF, splice, D.cells, D.one, sets, resT, D.flat, D.flat0, D.simple, Nat.reduceBNe, Nat.reduceLT, reduceIte, Nat.reduceEqDiff, Nat.reduceAdd, Nat.reduceMul, Nat.reduceSub, Nat.reduceLeDiff, Int.reduceToNat, Int.reduceLT, Int.reduceLE, Int.reduceEq, Int.reduceNeg, Int.reduceSub, Int.reduceAdd, Int.reduceMul, z_lt, s_lt, lays_cons, lays_nil]
        refine callF_of h56 ?_
        simp only [evA, evB, evC, forall_const, implies_true, initE, stepF, D.clean, mvF, moF, tkF, shF, ariF, ciF, catF, scF, ebF, eqF, eqOk, eqPr, enF, notF, ngF, cvF, csF, csbF, lenF, lenSF, ixF, iaF, PX.slot, iaAF, faF, ldF, D.mem, stF, bxF, mkSF, boundF, fldF, mmF2, D.plain, D.isPure, optAll, D.dull, callVF, splice, D.cells, D.one, sets, resT, D.flat, D.flat0, D.simple, Nat.reduceBNe, Nat.reduceLT, reduceIte, Nat.reduceEqDiff, Nat.reduceAdd, Nat.reduceMul, Nat.reduceSub, Nat.reduceLeDiff, Int.reduceToNat, Int.reduceLT, Int.reduceLE, Int.reduceEq, Int.reduceNeg, Int.reduceSub, Int.reduceAdd, Int.reduceMul, z_lt, s_lt]
        refine callF_of h56 ?_
        simp only [evA, evB, evC, forall_const, implies_true, initE, stepF, D.clean, mvF, moF, tkF, shF, ariF, ciF, catF, scF, ebF, eqF, eqOk, eqPr, enF, notF, ngF, cvF, csF, csbF, lenF, lenSF, ixF, iaF, PX.slot, iaAF, faF, ldF, D.mem, stF, bxF, mkSF, boundF, fldF, mmF2, D.plain, D.isPure, optAll, D.dull, callVF, splice, D.cells, D.one, sets, resT, D.flat, D.flat0, D.simple, Nat.reduceBNe, Nat.reduceLT, reduceIte, Nat.reduceEqDiff, Nat.reduceAdd, Nat.reduceMul, Nat.reduceSub, Nat.reduceLeDiff, Int.reduceToNat, Int.reduceLT, Int.reduceLE, Int.reduceEq, Int.reduceNeg, Int.reduceSub, Int.reduceAdd, Int.reduceMul, z_lt, s_lt]
        exact ⟨by omega, by omega, by omega, by omega, by rw [rows_length Lay.d_len]; omega, ⟨n, p, [], out ++ [x], by simp only [List.length_nil]; omega, by simp only [List.length_nil, List.length_append, List.length_singleton]; omega, hj.trans hst, by rw [cut_one]; rfl, rfl, congrArg (Prod.mk 12) (snocL out x rfl)⟩, by omega⟩
      · obtain ⟨n, rfl⟩ : ∃ m, n = m + 1 := ⟨n - 1, by simp only [List.length_cons, List.length_nil] at hn; omega⟩
        have hx56 : Con Tryz.prog Tryz.L 56 _ (.int .i64 (pos (y :: q) x.u)) := Tryz.c56 (y :: q) x.u (by simp only [List.length_cons] at hsz ⊢; omega)
        have hy56 : Con Tryz.prog Tryz.L 56 _ (.int .i64 (pos (x :: p) y.u)) := Tryz.c56 (x :: p) y.u (by simp only [List.length_cons] at hsz ⊢; omega)
        have hst : jR (n + 1) (x :: p) (y :: q) out = if pos (y :: q) x.u = 0 then jR n p q (out ++ [x]) else if pos (y :: q) x.u < 0 then jR n p (y :: q) (out ++ [x]) else if pos (x :: p) y.u < 0 then jR n (x :: p) q (out ++ [y]) else none := rfl
        generalize pos (y :: q) x.u = i at hx56 hst
        generalize pos (x :: p) y.u = j at hy56 hst
        simp only [lays_cons, List.length_cons] at hn hsz hx56 hy56
        simp only [evA, evB, evC, forall_const, implies_true, initE, stepF, D.clean, mvF, moF, tkF, shF, ariF, ciF, catF, scF, ebF, eqF, eqOk, eqPr, enF, notF, ngF, cvF, csF, csbF, lenF, lenSF, ixF, iaF, PX.slot, iaAF, faF, ldF, D.mem, stF, bxF, mkSF, boundF, fldF, mmF2, D.plain, D.isPure, optAll, D.dull, callVF, splice, D.cells, D.one, sets, resT, D.flat, D.flat0, D.simple, Nat.reduceBNe, Nat.reduceLT, reduceIte, Nat.reduceEqDiff, Nat.reduceAdd, Nat.reduceMul, Nat.reduceSub, Nat.reduceLeDiff, Int.reduceToNat, Int.reduceLT, Int.reduceLE, Int.reduceEq, Int.reduceNeg, Int.reduceSub, Int.reduceAdd, Int.reduceMul, z_lt, s_lt, lays_cons, lays_nil]
        refine callF_of hx56 ?_
        simp only [evA, evB, evC, forall_const, implies_true, initE, stepF, D.clean, mvF, moF, tkF, shF, ariF, ciF, catF, scF, ebF, eqF, eqOk, eqPr, enF, notF, ngF, cvF, csF, csbF, lenF, lenSF, ixF, iaF, PX.slot, iaAF, faF, ldF, D.mem, stF, bxF, mkSF, boundF, fldF, mmF2, D.plain, D.isPure, optAll, D.dull, callVF, splice, D.cells, D.one, sets, resT, D.flat, D.flat0, D.simple, Nat.reduceBNe, Nat.reduceLT, reduceIte, Nat.reduceEqDiff, Nat.reduceAdd, Nat.reduceMul, Nat.reduceSub, Nat.reduceLeDiff, Int.reduceToNat, Int.reduceLT, Int.reduceLE, Int.reduceEq, Int.reduceNeg, Int.reduceSub, Int.reduceAdd, Int.reduceMul, z_lt, s_lt]
        refine ⟨fun hi => ?_, fun hi => ?_⟩
        · refine callF_of hx56 ?_
          simp only [evA, evB, evC, forall_const, implies_true, initE, stepF, D.clean, mvF, moF, tkF, shF, ariF, ciF, catF, scF, ebF, eqF, eqOk, eqPr, enF, notF, ngF, cvF, csF, csbF, lenF, lenSF, ixF, iaF, PX.slot, iaAF, faF, ldF, D.mem, stF, bxF, mkSF, boundF, fldF, mmF2, D.plain, D.isPure, optAll, D.dull, callVF, splice, D.cells, D.one, sets, resT, D.flat, D.flat0, D.simple, Nat.reduceBNe, Nat.reduceLT, reduceIte, Nat.reduceEqDiff, Nat.reduceAdd, Nat.reduceMul, Nat.reduceSub, Nat.reduceLeDiff, Int.reduceToNat, Int.reduceLT, Int.reduceLE, Int.reduceEq, Int.reduceNeg, Int.reduceSub, Int.reduceAdd, Int.reduceMul, z_lt, s_lt]
          have eo := snocL out x rfl
          refine ⟨fun h0 => ?_, fun h0 => ?_⟩
          · rw [if_pos h0] at hst
            exact ⟨by omega, by omega, by rw [rows_length Lay.d_len]; omega, by omega, by omega, by omega, by omega, by rw [rows_length Lay.d_len]; omega, ⟨n, p, q, out ++ [x], by omega, by simp only [List.length_append, List.length_singleton]; omega, hj.trans hst, by rw [cut_one]; rfl, by rw [cut_one]; rfl, congrArg (Prod.mk 12) eo⟩, by omega⟩
          · rw [if_neg h0, if_pos (by omega)] at hst
            exact ⟨by omega, by omega, by omega, by omega, by rw [rows_length Lay.d_len]; omega, ⟨n, p, y :: q, out ++ [x], by simp only [List.length_cons]; omega, by simp only [List.length_append, List.length_cons, List.length_nil]; omega, hj.trans hst, by rw [cut_one]; rfl, rfl, congrArg (Prod.mk 12) eo⟩, by omega⟩
        · refine callF_of hy56 ?_
          simp only [evA, evB, evC, forall_const, implies_true, initE, stepF, D.clean, mvF, moF, tkF, shF, ariF, ciF, catF, scF, ebF, eqF, eqOk, eqPr, enF, notF, ngF, cvF, csF, csbF, lenF, lenSF, ixF, iaF, PX.slot, iaAF, faF, ldF, D.mem, stF, bxF, mkSF, boundF, fldF, mmF2, D.plain, D.isPure, optAll, D.dull, callVF, splice, D.cells, D.one, sets, resT, D.flat, D.flat0, D.simple, Nat.reduceBNe, Nat.reduceLT, reduceIte, Nat.reduceEqDiff, Nat.reduceAdd, Nat.reduceMul, Nat.reduceSub, Nat.reduceLeDiff, Int.reduceToNat, Int.reduceLT, Int.reduceLE, Int.reduceEq, Int.reduceNeg, Int.reduceSub, Int.reduceAdd, Int.reduceMul, z_lt, s_lt]
          have eo := snocL out y rfl
          rw [if_neg (by omega), if_neg (by omega)] at hst
          refine ⟨fun h0 => ?_, fun h0 => ?_⟩
          · rw [if_pos h0] at hst
            exact ⟨by omega, by omega, by omega, by omega, by rw [rows_length Lay.d_len]; omega, ⟨n, x :: p, q, out ++ [y], by simp only [List.length_cons]; omega, by simp only [List.length_append, List.length_cons, List.length_nil]; omega, hj.trans hst, rfl, by rw [cut_one]; rfl, congrArg (Prod.mk 12) eo⟩, by omega⟩
          · rw [if_neg h0] at hst
            rw [hst] at eE eL
            simp only at eE
            rw [eE] at eL ⊢
            rw [if_neg (by decide)] at eL
            rw [eL]; rfl
set_option maxHeartbeats 2000000 in
theorem Tryz.c34 (a b : List Lay) (hab : a.length + b.length ≤ 1000) :
    Con Tryz.prog Tryz.L 34 [.sl a.length (lays a), .sl b.length (lays b)] (.tup [.sl (jnL a b).length (lays (jnL a b)), .int .i64 (jnE a b)]) := by
  have ha : a.length ≤ 1000 := by omega
  have hb : b.length ≤ 1000 := by omega
  refine rule34 Tryz.hL rfl rfl rfl ?_
  simp only [pc34, rs34, evA, evB, evC, forall_const, implies_true, initE, stepF, D.clean, mvF, moF, tkF, shF, ariF, ciF, catF, scF, ebF, eqF, eqOk, eqPr, enF, notF, ngF, cvF, csF, csbF, lenF, lenSF, ixF, iaF, PX.slot, iaAF, faF, ldF, D.mem, stF, bxF, mkSF, boundF, fldF, mmF2, D.plain, D.isPure, optAll, D.dull, callVF, splice, D.cells, D.one, sets, resT, D.flat, D.flat0, D.simple, Nat.reduceBNe, Nat.reduceLT, reduceIte, Nat.reduceEqDiff, Nat.reduceAdd, Nat.reduceMul, Nat.reduceSub, Nat.reduceLeDiff, Int.reduceToNat, Int.reduceLT, Int.reduceLE, Int.reduceEq, Int.reduceNeg, Int.reduceSub, Int.reduceAdd, Int.reduceMul]
  refine loopF_of (fun E => ∃ k : Nat, k ≤ a.length ∧ a.any (cf b) = (a.drop k).any (cf b) ∧ E = [(0, .sl a.length (lays a)), (1, .sl b.length (lays b)), (10, .sl a.length (lays a)), (11, .int .i64 a.length), (12, .int .i64 k)])
    (fun E => match lk E 12 with | .int _ i => a.length - i.toNat | _ => 0) ⟨0, Nat.zero_le _, rfl, rfl⟩ ?_
  rintro _ ⟨k, hk, hi, rfl⟩
  simp only [evA, evB, evC, forall_const, implies_true, initE, stepF, D.clean, mvF, moF, tkF, shF, ariF, ciF, catF, scF, ebF, eqF, eqOk, eqPr, enF, notF, ngF, cvF, csF, csbF, lenF, lenSF, ixF, iaF, PX.slot, iaAF, faF, ldF, D.mem, stF, bxF, mkSF, boundF, fldF, mmF2, D.plain, D.isPure, optAll, D.dull, callVF, splice, D.cells, D.one, sets, resT, D.flat, D.flat0, D.simple, Nat.reduceBNe, Nat.reduceLT, reduceIte, Nat.reduceEqDiff, Nat.reduceAdd, Nat.reduceMul, Nat.reduceSub, Nat.reduceLeDiff, Int.reduceToNat, Int.reduceLT, Int.reduceLE, Int.reduceEq, Int.reduceNeg, Int.reduceSub, Int.reduceAdd, Int.reduceMul, ldC_lays, Lay.d]
  refine ⟨fun h1 => ?_, fun h1 => ?_⟩
  · have hx : a[k]? = some (a[k]'(by omega)) := List.getElem?_eq_getElem (by omega)
    generalize a[k]'(by omega) = x at hx
    rw [any_drop hx] at hi
    refine ⟨⟨by omega, by rw [rows_length Lay.d_len]; omega⟩, x, hx, ?_⟩
    refine callF_of (show Con Tryz.prog Tryz.L 20 _ (.int .i64 (pos b x.u)) from Tryz.c20 b x.u hb) ?_
    simp only [evA, evB, evC, forall_const, implies_true, initE, stepF, D.clean, mvF, moF, tkF, shF, ariF, ciF, catF, scF, ebF, eqF, eqOk, eqPr, enF, notF, ngF, cvF, csF, csbF, lenF, lenSF, ixF, iaF, PX.slot, iaAF, faF, ldF, D.mem, stF, bxF, mkSF, boundF, fldF, mmF2, D.plain, D.isPure, optAll, D.dull, callVF, splice, D.cells, D.one, sets, resT, D.flat, D.flat0, D.simple, Nat.reduceBNe, Nat.reduceLT, reduceIte, Nat.reduceEqDiff, Nat.reduceAdd, Nat.reduceMul, Nat.reduceSub, Nat.reduceLeDiff, Int.reduceToNat, Int.reduceLT, Int.reduceLE, Int.reduceEq, Int.reduceNeg, Int.reduceSub, Int.reduceAdd, Int.reduceMul, ldC_lays, Lay.d]
    have e14 : cf b x = true → jnE a b = 14 ∧ jnL a b = [] := fun h => by
      have h1 : jnE a b = 14 := if_pos (by rw [hi, h]; rfl)
      exact ⟨h1, if_neg (by rw [h1]; decide)⟩
    have fin : cf b x = false → (-9223372036854775808 ≤ (k : Int) + 1 ∧ (k : Int) + 1 ≤ 9223372036854775807) ∧ (∃ k_1 : Nat, k_1 ≤ a.length ∧ a.any (cf b) = (List.drop k_1 a).any (cf b) ∧ (12, D.int IntKind.i64 ((k : Int) + 1)) = (12, D.int IntKind.i64 k_1)) ∧ a.length - ((k : Int) + 1).toNat < a.length - k := fun h => ⟨by omega, ⟨k + 1, by omega, by rw [hi, h]; rfl, rfl⟩, by omega⟩
    refine ⟨fun h0 => ?_, fun h0 => fin ?_⟩
    · obtain ⟨y, q1, q2, q3⟩ := pos_at h0
      have hlo := pos_lo (l := b) (u := x.u)
      have ecf : cf b x = decide (y ≠ x) := by unfold cf; rw [q2]
      refine ⟨⟨h0, by omega, by rw [rows_length Lay.d_len]; omega⟩, y, q1, fun h2 => ?_, fun h2 => fin ?_⟩
      · obtain ⟨e1, e2⟩ := e14 (by rw [ecf]; exact decide_eq_true fun e => h2 (by rw [e]; exact ⟨rfl, rfl, rfl⟩))
        rw [e1, e2]; rfl
      · rw [ecf]
        refine decide_eq_false fun h => h ?_
        obtain ⟨z1, z2, z3⟩ := Decidable.of_not_not h2
        cases y; cases x; simp_all
    · have h1 := pos_neg.1 (show pos b x.u < 0 by omega)
      unfold cf
      rw [List.find?_eq_none.2 fun y hy => by simpa using h1 y hy]
  · have : k = a.length := by omega
    subst this
    rw [List.drop_length] at hi
    clear h1 hk
    have eE : jnE a b = match jR (a.length + b.length) a b [] with | none => 27 | some r => if 60 < r.length then 4 else 0 := if_neg (by rw [hi]; simp)
    refine loopF_of (fun E => ∃ (n : Nat) (p q out : List Lay), p.length + q.length ≤ n ∧ p.length + q.length + out.length ≤ 1000 ∧ jR (a.length + b.length) a b [] = jR n p q out ∧ E = [(0, .sl p.length (lays p)), (1, .sl q.length (lays q)), (9, .own true 39 out.length (lays out))])
      (fun E => match lk E 0, lk E 1 with | .sl m _, .sl n _ => m + n | _, _ => 0) ⟨_, a, b, [], Nat.le_refl _, by simp only [List.length_nil]; omega, rfl, rfl⟩ ?_
    rintro _ ⟨n, p, q, out, hn, hsz, hj, rfl⟩
    rw [hj] at eE
    have eL : jnL a b = if jnE a b = 0 then (jR n p q out).getD [] else [] := by unfold jnL; rw [hj]
    clear hi
    rcases p with _ | ⟨x, p⟩ <;> rcases q with _ | ⟨y, q⟩
    · have ej : jR n [] [] out = some out := by cases n <;> rfl
      rw [ej] at eE eL
      simp only [evA, evB, evC, forall_const, implies_true, initE, stepF, D.clean, mvF, moF, tkF, shF, ariF, ciF, catF, scF, ebF, eqF, eqOk, eqPr, enF, notF, ngF, cvF, csF, csbF, lenF, lenSF, ixF, iaF, PX.slot, iaAF, faF, ldF, D.mem, stF, bxF, mkSF, boundF, fldF, mmF2, D.plain, D.isPure, optAll, D.dull, callVF, splice, D.cells, D.one, sets, resT, D.flat, D.flat0, D.simple, Nat.reduceBNe, Nat.reduceLT, reduceIte, Nat.reduceEqDiff, Nat.reduceAdd, Nat.reduceMul, Nat.reduceSub, Nat.reduceLeDiff, Int.reduceToNat, Int.reduceLT, Int.reduceLE, Int.reduceEq, Int.reduceNeg, Int.reduceSub, Int.reduceAdd, Int.reduceMul, z_lt, s_lt, lays_nil]
      simp only at eE
      simp only [Option.getD_some] at eL
      refine ⟨by omega, fun h => by omega, fun _ => ?_⟩
      refine ⟨fun h => ?_, fun h => ?_⟩
      · rw [if_pos (by omega)] at eE
        rw [eE] at eL ⊢
        rw [if_neg (by decide)] at eL
        rw [eL]; rfl
      · rw [if_neg (by omega)] at eE
        rw [eE] at eL ⊢
        rw [if_pos rfl] at eL
        rw [eL]; rfl
    · obtain ⟨n, rfl⟩ : ∃ m, n = m + 1 := ⟨n - 1, by simp only [List.length_cons, List.length_nil] at hn; omega⟩
      simp only [List.length_cons, List.length_nil] at hn hsz
      have hst : jR (n + 1) [] (y :: q) out = jR n [] q (out ++ [y]) := rfl
      have h56 := Tryz.c20 [] y.u (by simp)
      rw [show idx (fun x : Lay => x.u == y.u) [] = -1 from rfl] at h56
      simp only [lays_nil, List.length_nil] at h56
      simp only [evA, evB, evC, forall_const, implies_true, initE, stepF, D.clean, mvF, moF, tkF, shF, ariF, ciF, catF, scF, ebF, eqF, eqOk, eqPr, enF, notF, ngF, cvF, csF, csbF, lenF, lenSF, ixF, iaF, PX.slot, iaAF, faF, ldF, D.mem, stF, bxF, mkSF, boundF, fldF, mmF2, D.plain, D.isPure, optAll, D.dull, callVF, splice, D.cells, D.one, sets, resT, D.flat, D.flat0, D.simple, Nat.reduceBNe, Nat.reduceLT, reduceIte, Nat.reduceEqDiff, Nat.reduceAdd, Nat.reduceMul, Nat.reduceSub, Nat.reduceLeDiff, Int.reduceToNat, Int.reduceLT, Int.reduceLE, Int.reduceEq, Int.reduceNeg, Int.reduceSub, Int.reduceAdd, Int.reduceMul, z_lt, s_lt, lays_cons, lays_nil]
      refine ⟨by omega, fun _ => ?_, fun h => by omega⟩
      refine callF_of h56 ?_
      simp only [evA, evB, evC, forall_const, implies_true, initE, stepF, D.clean, mvF, moF, tkF, shF, ariF, ciF, catF, scF, ebF, eqF, eqOk, eqPr, enF, notF, ngF, cvF, csF, csbF, lenF, lenSF, ixF, iaF, PX.slot, iaAF, faF, ldF, D.mem, stF, bxF, mkSF, boundF, fldF, mmF2, D.plain, D.isPure, optAll, D.dull, callVF, splice, D.cells, D.one, sets, resT, D.flat, D.flat0, D.simple, Nat.reduceBNe, Nat.reduceLT, reduceIte, Nat.reduceEqDiff, Nat.reduceAdd, Nat.reduceMul, Nat.reduceSub, Nat.reduceLeDiff, Int.reduceToNat, Int.reduceLT, Int.reduceLE, Int.reduceEq, Int.reduceNeg, Int.reduceSub, Int.reduceAdd, Int.reduceMul, z_lt, s_lt]
      exact ⟨by omega, by omega, by omega, by omega, by rw [rows_length Lay.d_len]; omega, ⟨n, [], q, out ++ [y], by simp only [List.length_nil]; omega, by simp only [List.length_nil, List.length_append, List.length_singleton]; omega, hj.trans hst, rfl, by rw [cut_one]; rfl, congrArg (Prod.mk 9) (snocL out y rfl)⟩, by omega⟩
    · obtain ⟨n, rfl⟩ : ∃ m, n = m + 1 := ⟨n - 1, by simp only [List.length_cons, List.length_nil] at hn; omega⟩
      simp only [List.length_cons, List.length_nil] at hn hsz
      have hst : jR (n + 1) (x :: p) [] out = jR n p [] (out ++ [x]) := rfl
      have h56 := Tryz.c20 [] x.u (by simp)
      rw [show idx (fun y : Lay => y.u == x.u) [] = -1 from rfl] at h56
      simp only [lays_nil, List.length_nil] at h56
      simp only [evA, evB, evC, forall_const, implies_true, initE, stepF, D.clean, mvF, moF, tkF, shF, ariF, ciF, catF, scF, ebF, eqF, eqOk, eqPr, enF, notF, ngF, cvF, csF, csbF, lenF, lenSF, ixF, iaF, PX.slot, iaAF, faF, ldF, D.mem, stF, bxF, mkSF, boundF, fldF, mmF2, D.plain, D.isPure, optAll, D.dull, callVF, splice, D.cells, D.one, sets, resT, D.flat, D.flat0, D.simple, Nat.reduceBNe, Nat.reduceLT, reduceIte, Nat.reduceEqDiff, Nat.reduceAdd, Nat.reduceMul, Nat.reduceSub, Nat.reduceLeDiff, Int.reduceToNat, Int.reduceLT, Int.reduceLE, Int.reduceEq, Int.reduceNeg, Int.reduceSub, Int.reduceAdd, Int.reduceMul, z_lt, s_lt, lays_cons, lays_nil]
      refine ⟨by omega, fun _ => ?_, fun h => by omega⟩
      refine callF_of h56 ?_
      simp only [evA, evB, evC, forall_const, implies_true, initE, stepF, D.clean, mvF, moF, tkF, shF, ariF, ciF, catF, scF, ebF, eqF, eqOk, eqPr, enF, notF, ngF, cvF, csF, csbF, lenF, lenSF, ixF, iaF, PX.slot, iaAF, faF, ldF, D.mem, stF, bxF, mkSF, boundF, fldF, mmF2, D.plain, D.isPure, optAll, D.dull, callVF, splice, D.cells, D.one, sets, resT, D.flat, D.flat0, D.simple, Nat.reduceBNe, Nat.reduceLT, reduceIte, Nat.reduceEqDiff, Nat.reduceAdd, Nat.reduceMul, Nat.reduceSub, Nat.reduceLeDiff, Int.reduceToNat, Int.reduceLT, Int.reduceLE, Int.reduceEq, Int.reduceNeg, Int.reduceSub, Int.reduceAdd, Int.reduceMul, z_lt, s_lt]
      refine callF_of h56 ?_
      simp only [evA, evB, evC, forall_const, implies_true, initE, stepF, D.clean, mvF, moF, tkF, shF, ariF, ciF, catF, scF, ebF, eqF, eqOk, eqPr, enF, notF, ngF, cvF, csF, csbF, lenF, lenSF, ixF, iaF, PX.slot, iaAF, faF, ldF, D.mem, stF, bxF, mkSF, boundF, fldF, mmF2, D.plain, D.isPure, optAll, D.dull, callVF, splice, D.cells, D.one, sets, resT, D.flat, D.flat0, D.simple, Nat.reduceBNe, Nat.reduceLT, reduceIte, Nat.reduceEqDiff, Nat.reduceAdd, Nat.reduceMul, Nat.reduceSub, Nat.reduceLeDiff, Int.reduceToNat, Int.reduceLT, Int.reduceLE, Int.reduceEq, Int.reduceNeg, Int.reduceSub, Int.reduceAdd, Int.reduceMul, z_lt, s_lt]
      exact ⟨by omega, by omega, by omega, by omega, by rw [rows_length Lay.d_len]; omega, ⟨n, p, [], out ++ [x], by simp only [List.length_nil]; omega, by simp only [List.length_nil, List.length_append, List.length_singleton]; omega, hj.trans hst, by rw [cut_one]; rfl, rfl, congrArg (Prod.mk 9) (snocL out x rfl)⟩, by omega⟩
    · obtain ⟨n, rfl⟩ : ∃ m, n = m + 1 := ⟨n - 1, by simp only [List.length_cons, List.length_nil] at hn; omega⟩
      have hx56 : Con Tryz.prog Tryz.L 20 _ (.int .i64 (pos (y :: q) x.u)) := Tryz.c20 (y :: q) x.u (by simp only [List.length_cons] at hsz ⊢; omega)
      have hy56 : Con Tryz.prog Tryz.L 20 _ (.int .i64 (pos (x :: p) y.u)) := Tryz.c20 (x :: p) y.u (by simp only [List.length_cons] at hsz ⊢; omega)
      have hst : jR (n + 1) (x :: p) (y :: q) out = if pos (y :: q) x.u = 0 then jR n p q (out ++ [x]) else if pos (y :: q) x.u < 0 then jR n p (y :: q) (out ++ [x]) else if pos (x :: p) y.u < 0 then jR n (x :: p) q (out ++ [y]) else none := rfl
      generalize pos (y :: q) x.u = i at hx56 hst
      generalize pos (x :: p) y.u = j at hy56 hst
      simp only [lays_cons, List.length_cons] at hn hsz hx56 hy56
      simp only [evA, evB, evC, forall_const, implies_true, initE, stepF, D.clean, mvF, moF, tkF, shF, ariF, ciF, catF, scF, ebF, eqF, eqOk, eqPr, enF, notF, ngF, cvF, csF, csbF, lenF, lenSF, ixF, iaF, PX.slot, iaAF, faF, ldF, D.mem, stF, bxF, mkSF, boundF, fldF, mmF2, D.plain, D.isPure, optAll, D.dull, callVF, splice, D.cells, D.one, sets, resT, D.flat, D.flat0, D.simple, Nat.reduceBNe, Nat.reduceLT, reduceIte, Nat.reduceEqDiff, Nat.reduceAdd, Nat.reduceMul, Nat.reduceSub, Nat.reduceLeDiff, Int.reduceToNat, Int.reduceLT, Int.reduceLE, Int.reduceEq, Int.reduceNeg, Int.reduceSub, Int.reduceAdd, Int.reduceMul, z_lt, s_lt, lays_cons, lays_nil]
      refine ⟨by omega, fun _ => ?_, fun h => by omega⟩
      refine callF_of hx56 ?_
      simp only [evA, evB, evC, forall_const, implies_true, initE, stepF, D.clean, mvF, moF, tkF, shF, ariF, ciF, catF, scF, ebF, eqF, eqOk, eqPr, enF, notF, ngF, cvF, csF, csbF, lenF, lenSF, ixF, iaF, PX.slot, iaAF, faF, ldF, D.mem, stF, bxF, mkSF, boundF, fldF, mmF2, D.plain, D.isPure, optAll, D.dull, callVF, splice, D.cells, D.one, sets, resT, D.flat, D.flat0, D.simple, Nat.reduceBNe, Nat.reduceLT, reduceIte, Nat.reduceEqDiff, Nat.reduceAdd, Nat.reduceMul, Nat.reduceSub, Nat.reduceLeDiff, Int.reduceToNat, Int.reduceLT, Int.reduceLE, Int.reduceEq, Int.reduceNeg, Int.reduceSub, Int.reduceAdd, Int.reduceMul, z_lt, s_lt]
      refine ⟨fun hi => ?_, fun hi => ?_⟩
      · refine callF_of hx56 ?_
        simp only [evA, evB, evC, forall_const, implies_true, initE, stepF, D.clean, mvF, moF, tkF, shF, ariF, ciF, catF, scF, ebF, eqF, eqOk, eqPr, enF, notF, ngF, cvF, csF, csbF, lenF, lenSF, ixF, iaF, PX.slot, iaAF, faF, ldF, D.mem, stF, bxF, mkSF, boundF, fldF, mmF2, D.plain, D.isPure, optAll, D.dull, callVF, splice, D.cells, D.one, sets, resT, D.flat, D.flat0, D.simple, Nat.reduceBNe, Nat.reduceLT, reduceIte, Nat.reduceEqDiff, Nat.reduceAdd, Nat.reduceMul, Nat.reduceSub, Nat.reduceLeDiff, Int.reduceToNat, Int.reduceLT, Int.reduceLE, Int.reduceEq, Int.reduceNeg, Int.reduceSub, Int.reduceAdd, Int.reduceMul, z_lt, s_lt]
        have eo := snocL out x rfl
        refine ⟨fun h0 => ?_, fun h0 => ?_⟩
        · rw [if_pos h0] at hst
          exact ⟨by omega, by omega, by rw [rows_length Lay.d_len]; omega, by omega, by omega, by omega, by omega, by rw [rows_length Lay.d_len]; omega, ⟨n, p, q, out ++ [x], by omega, by simp only [List.length_append, List.length_singleton]; omega, hj.trans hst, by rw [cut_one]; rfl, by rw [cut_one]; rfl, congrArg (Prod.mk 9) eo⟩, by omega⟩
        · rw [if_neg h0, if_pos (by omega)] at hst
          exact ⟨by omega, by omega, by omega, by omega, by rw [rows_length Lay.d_len]; omega, ⟨n, p, y :: q, out ++ [x], by simp only [List.length_cons]; omega, by simp only [List.length_append, List.length_cons, List.length_nil]; omega, hj.trans hst, by rw [cut_one]; rfl, rfl, congrArg (Prod.mk 9) eo⟩, by omega⟩
      · refine callF_of hy56 ?_
        simp only [evA, evB, evC, forall_const, implies_true, initE, stepF, D.clean, mvF, moF, tkF, shF, ariF, ciF, catF, scF, ebF, eqF, eqOk, eqPr, enF, notF, ngF, cvF, csF, csbF, lenF, lenSF, ixF, iaF, PX.slot, iaAF, faF, ldF, D.mem, stF, bxF, mkSF, boundF, fldF, mmF2, D.plain, D.isPure, optAll, D.dull, callVF, splice, D.cells, D.one, sets, resT, D.flat, D.flat0, D.simple, Nat.reduceBNe, Nat.reduceLT, reduceIte, Nat.reduceEqDiff, Nat.reduceAdd, Nat.reduceMul, Nat.reduceSub, Nat.reduceLeDiff, Int.reduceToNat, Int.reduceLT, Int.reduceLE, Int.reduceEq, Int.reduceNeg, Int.reduceSub, Int.reduceAdd, Int.reduceMul, z_lt, s_lt]
        have eo := snocL out y rfl
        rw [if_neg (by omega), if_neg (by omega)] at hst
        refine ⟨fun h0 => ?_, fun h0 => ?_⟩
        · rw [if_pos h0] at hst
          exact ⟨by omega, by omega, by omega, by omega, by rw [rows_length Lay.d_len]; omega, ⟨n, x :: p, q, out ++ [y], by simp only [List.length_cons]; omega, by simp only [List.length_append, List.length_cons, List.length_nil]; omega, hj.trans hst, rfl, by rw [cut_one]; rfl, congrArg (Prod.mk 9) eo⟩, by omega⟩
        · rw [if_neg h0] at hst
          rw [hst] at eE eL
          simp only at eE
          rw [eE] at eL ⊢
          rw [if_neg (by decide)] at eL
          rw [eL]; rfl
end Go.Proofs

/-
  SEAT 22: ColumnJoins over data. Own work.
-/
namespace Go.Proofs
open Go Go.Pi Go.RowKit

theorem run78b : outI (runJ tab22 1000 (.call 78 [.str [53]])) 1 = true := by kernel_rfl
theorem run62b : outI (runJ tab22 1000 (.call 62 [.str [53]])) 0 = true := by kernel_rfl

theorem has_iff {us : List (List UInt8)} {u : List UInt8} : has us u = true ↔ u ∈ us := by
  unfold has
  rw [dB_iff]
  constructor
  · intro h
    rcases Decidable.em (u ∈ us) with h1 | h1
    · exact h1
    · have : idx (fun x => u == x) us = -1 := idxA_none fun x hx => by rw [beq_eq_false_iff_ne]; exact fun e => h1 (e ▸ hx)
      omega
  · intro h
    rcases Decidable.em (0 ≤ idx (fun x => u == x) us) with h1 | h1
    · exact h1
    · have := idxA_ge h1 u h
      simp at this
theorem rsA_zero {j : List Lay} : ∀ (rest pre : List (List UInt8)), (∀ u ∈ rest, 0 ≤ pos j u) → (pre ++ rest).Nodup → rsA j pre rest = 0
  | [], _, _, _ => rfl
  | u :: rest, pre, h, hn => by
    have h1 := h u (List.mem_cons_self ..)
    have h2 : ¬has pre u = true := fun hc => by
      have := (List.nodup_append.1 hn).2.2 u (has_iff.1 hc) u (List.mem_cons_self ..)
      exact this rfl
    rw [rsA, if_neg (by omega), if_neg h2]
    exact rsA_zero rest (pre ++ [u]) (fun v hv => h v (List.mem_cons_of_mem _ hv)) (by rw [List.append_assoc]; exact hn)
theorem rs_of {j l : List Lay} (hf : j.filter (inn l) = l) (hn : (l.map Lay.u).Nodup) (h0 : 0 < l.length) : rsE j (l.map Lay.u) = 0 ∧ rsL j (l.map Lay.u) = l := by
  have e1 : rsE j (l.map Lay.u) = 0 := by
    unfold rsE
    rw [if_neg (by intro h; have := congrArg List.length h; rw [List.length_map, List.length_nil] at this; omega)]
    refine rsA_zero _ [] (fun u hu => ?_) hn
    obtain ⟨x, hx, rfl⟩ := List.mem_map.1 hu
    rcases Int.lt_or_le (pos j x.u) 0 with h | h
    · rw [← hf] at hx
      exact absurd rfl (pos_neg.1 h x (List.mem_filter.1 hx).1)
    · exact h
  refine ⟨e1, ?_⟩
  unfold rsL
  rw [if_pos e1]
  refine Eq.trans (List.filter_congr fun x _ => ?_) hf
  rw [Bool.eq_iff_iff, has_iff, inn_iff, List.mem_map]

/-- a column that the functions accept -/
structure Acc (l : List Lay) : Prop where
  pos : 0 < l.length
  len : l.length ≤ 60
  nd : (l.map Lay.u).Nodup
  ok : ∀ x ∈ l, LayOk x
theorem Acc.check {l : List Lay} (h : Acc l) : Con Tryz.prog Tryz.L 45 [.sl l.length (lays l)] (.int .i64 0) := Tryz.c45 l h.pos h.len h.nd h.ok
theorem Pl.make_acc (p : Pl) : Acc p.make := ⟨p.make_pos, by have := p.make_ok.len; omega, p.make_ok.nd, p.make_ok.layOk⟩
theorem Acc.joined {a b : List Lay} (ha : Acc a) (hb : Acc b) (h : jnE a b = 0) : Acc (jnL a b) := by
  obtain ⟨h1, h2⟩ := jnE_ok ha.nd hb.nd h
  refine ⟨?_, h2, h1.nd, fun x hx => (h1.mem x hx).elim (ha.ok x) (hb.ok x)⟩
  have := congrArg List.length h1.fa
  have h3 := List.length_filter_le (inn a) (jnL a b)
  have := ha.pos
  omega
/-- the first layer of another bound -/
def five (l : List Lay) : List Lay := match l with
  | [] => []
  | y :: l => ⟨y.u, [53], []⟩ :: l
theorem Acc.five {l : List Lay} (h : Acc l) : Acc (five l) := by
  cases l with
  | nil => exact h
  | cons y l =>
    refine ⟨h.pos, h.len, h.nd, fun x hx => ?_⟩
    rcases List.mem_cons.1 hx with rfl | hx
    · exact ⟨con_run Tryz.hL tab22_ok 1000 (outI_ok run62b), fun h => absurd rfl h, (h.ok y (List.mem_cons_self ..)).nm, ⟨1, by omega, con_run Tryz.hL tab22_ok 1000 (outI_ok run78b)⟩, fun h => absurd rfl h⟩
    · exact h.ok x (List.mem_cons_of_mem _ hx)

theorem stG_ownS {s off e m : Nat} {cs : List D} {x : List UInt8} {N : EP} {E : Env} : stG 1 s off (.own true e m cs) (.str x) N E = (off + 1 ≤ cs.length ∧ N (st1 E s (.own true e m (splice cs off [.str x])))) := by
  simp [stG, D.wr, D.mem, D.setMem, D.cells, D.one, D.isPure]
theorem le13 {n : Nat} : (1 + 1 ≤ n + 1 + 1 + 1) = True := by simp
theorem ints_cons {k : IntKind} {x : Int} {l : List Int} : ints k (x :: l) = .int k x :: ints k l := rfl

set_option maxRecDepth 100000 in
set_option maxHeartbeats 2000000 in
theorem Tryz.c8 (p q : Pl) (hp : p.ok) (hq : q.ok) : Con Tryz.prog Tryz.L 8 [p.d, q.d] (.bool true) := by
  refine rule8 Tryz.hL rfl rfl rfl ?_
  simp only [pc8, rs8, Pl.d, evA, evB, evC, forall_const, implies_true, initE, stepF, D.clean, mvF, moF, tkF, shF, ariF, ciF, catF, scF, ebF, eqF, eqOk, eqPr, enF, notF, ngF, cvF, csF, csbF, lenF, lenSF, ixF, iaF, PX.slot, iaAF, faF, ldF, D.mem, stF, bxF, mkSF, boundF, fldF, mmF2, D.plain, D.isPure, optAll, D.dull, callVF, splice, D.cells, D.one, sets, resT, D.flat, D.flat0, D.simple, Nat.reduceBNe, Nat.reduceLT, reduceIte, Nat.reduceEqDiff, Nat.reduceAdd, Nat.reduceMul, Nat.reduceSub, Nat.reduceLeDiff, Int.reduceToNat, Int.reduceLT, Int.reduceLE, Int.reduceEq, Int.reduceNeg, Int.reduceSub, Int.reduceAdd, Int.reduceMul]
  refine callF_of Tryz.c11 ?_
  simp only [evA, evB, evC, forall_const, implies_true, initE, stepF, D.clean, mvF, moF, tkF, shF, ariF, ciF, catF, scF, ebF, eqF, eqOk, eqPr, enF, notF, ngF, cvF, csF, csbF, lenF, lenSF, ixF, iaF, PX.slot, iaAF, faF, ldF, D.mem, stF, bxF, mkSF, boundF, fldF, mmF2, D.plain, D.isPure, optAll, D.dull, callVF, splice, D.cells, D.one, sets, resT, D.flat, D.flat0, D.simple, Nat.reduceBNe, Nat.reduceLT, reduceIte, Nat.reduceEqDiff, Nat.reduceAdd, Nat.reduceMul, Nat.reduceSub, Nat.reduceLeDiff, Int.reduceToNat, Int.reduceLT, Int.reduceLE, Int.reduceEq, Int.reduceNeg, Int.reduceSub, Int.reduceAdd, Int.reduceMul]
  have ha12 := Tryz.c12 p hp
  have hb12 := Tryz.c12 ⟨q.us, p.a0, p.b0, p.a1, p.b1, p.a2, p.b2, p.a3, p.b3⟩ ⟨hq.len, hq.us, hp.a0, hp.b0, hp.a1, hp.b1, hp.a2, hp.b2, hp.a3, hp.b3⟩
  simp only [Pl.d] at ha12 hb12
  refine callF_of ha12 ?_
  simp only [evA, evB, evC, forall_const, implies_true, initE, stepF, D.clean, mvF, moF, tkF, shF, ariF, ciF, catF, scF, ebF, eqF, eqOk, eqPr, enF, notF, ngF, cvF, csF, csbF, lenF, lenSF, ixF, iaF, PX.slot, iaAF, faF, ldF, D.mem, stF, bxF, mkSF, boundF, fldF, mmF2, D.plain, D.isPure, optAll, D.dull, callVF, splice, D.cells, D.one, sets, resT, D.flat, D.flat0, D.simple, Nat.reduceBNe, Nat.reduceLT, reduceIte, Nat.reduceEqDiff, Nat.reduceAdd, Nat.reduceMul, Nat.reduceSub, Nat.reduceLeDiff, Int.reduceToNat, Int.reduceLT, Int.reduceLE, Int.reduceEq, Int.reduceNeg, Int.reduceSub, Int.reduceAdd, Int.reduceMul]
  refine callF_of hb12 ?_
  simp only [evA, evB, evC, forall_const, implies_true, initE, stepF, D.clean, mvF, moF, tkF, shF, ariF, ciF, catF, scF, ebF, eqF, eqOk, eqPr, enF, notF, ngF, cvF, csF, csbF, lenF, lenSF, ixF, iaF, PX.slot, iaAF, faF, ldF, D.mem, stF, bxF, mkSF, boundF, fldF, mmF2, D.plain, D.isPure, optAll, D.dull, callVF, splice, D.cells, D.one, sets, resT, D.flat, D.flat0, D.simple, Nat.reduceBNe, Nat.reduceLT, reduceIte, Nat.reduceEqDiff, Nat.reduceAdd, Nat.reduceMul, Nat.reduceSub, Nat.reduceLeDiff, Int.reduceToNat, Int.reduceLT, Int.reduceLE, Int.reduceEq, Int.reduceNeg, Int.reduceSub, Int.reduceAdd, Int.reduceMul]
  have hA := p.make_acc
  have hB := Pl.make_acc ⟨q.us, p.a0, p.b0, p.a1, p.b1, p.a2, p.b2, p.a3, p.b3⟩
  generalize p.make = a at hA ⊢
  generalize (Pl.mk q.us p.a0 p.b0 p.a1 p.b1 p.a2 p.b2 p.a3 p.b3).make = b at hB ⊢
  have hu8 := hq.us
  clear ha12 hb12 hp hq
  obtain ⟨us, a0, b0, a1, b1, a2, b2, a3, b3⟩ := q
  simp only at hu8 ⊢
  have h5 := hB.five
  rcases us with _ | ⟨u, us⟩
  rotate_left
  · simp only [evA, evB, evC, forall_const, implies_true, initE, stepF, D.clean, mvF, moF, tkF, shF, ariF, ciF, catF, scF, ebF, eqF, eqOk, eqPr, enF, notF, ngF, cvF, csF, csbF, lenF, lenSF, ixF, iaF, PX.slot, iaAF, faF, ldF, D.mem, stF, bxF, mkSF, boundF, fldF, mmF2, D.plain, D.isPure, optAll, D.dull, callVF, splice, D.cells, D.one, sets, resT, D.flat, D.flat0, D.simple, Nat.reduceBNe, Nat.reduceLT, reduceIte, Nat.reduceEqDiff, Nat.reduceAdd, Nat.reduceMul, Nat.reduceSub, Nat.reduceLeDiff, Int.reduceToNat, Int.reduceLT, Int.reduceLE, Int.reduceEq, Int.reduceNeg, Int.reduceSub, Int.reduceAdd, Int.reduceMul, z_lt, s_lt, ints_cons]
    refine ⟨fun h => ?_, fun h => ?_⟩
    · obtain ⟨y, b, rfl⟩ : ∃ y b', b = y :: b' := by
        cases b with
        | nil => exact absurd hB.pos (Nat.lt_irrefl _)
        | cons y b => exact ⟨y, b, rfl⟩
      simp only [evA, evB, evC, forall_const, implies_true, initE, stepF, D.clean, mvF, moF, tkF, shF, ariF, ciF, catF, scF, ebF, eqF, eqOk, eqPr, enF, notF, ngF, cvF, csF, csbF, lenF, lenSF, ixF, iaF, PX.slot, iaAF, faF, ldF, D.mem, stF, bxF, mkSF, boundF, fldF, mmF2, D.plain, D.isPure, optAll, D.dull, callVF, splice, D.cells, D.one, sets, resT, D.flat, D.flat0, D.simple, Nat.reduceBNe, Nat.reduceLT, reduceIte, Nat.reduceEqDiff, Nat.reduceAdd, Nat.reduceMul, Nat.reduceSub, Nat.reduceLeDiff, Int.reduceToNat, Int.reduceLT, Int.reduceLE, Int.reduceEq, Int.reduceNeg, Int.reduceSub, Int.reduceAdd, Int.reduceMul, z_lt, s_lt, lays_cons, stG_ownS]
      rw [show D.str y.u :: D.str [53] :: D.str [] :: lays b = lays (five (y :: b)) from rfl, show b.length + 1 = (five (y :: b)).length from rfl]
      clear hB h hu8
      generalize five (y :: b) = b at h5 ⊢
      have hB := h5
      have hl := hA.len
      have hl2 := hB.len
      refine callF_of (Tryz.c17 a b (by omega) hA.check hB.check) ?_
      simp only [evA, evB, evC, forall_const, implies_true, initE, stepF, D.clean, mvF, moF, tkF, shF, ariF, ciF, catF, scF, ebF, eqF, eqOk, eqPr, enF, notF, ngF, cvF, csF, csbF, lenF, lenSF, ixF, iaF, PX.slot, iaAF, faF, ldF, D.mem, stF, bxF, mkSF, boundF, fldF, mmF2, D.plain, D.isPure, optAll, D.dull, callVF, splice, D.cells, D.one, sets, resT, D.flat, D.flat0, D.simple, Nat.reduceBNe, Nat.reduceLT, reduceIte, Nat.reduceEqDiff, Nat.reduceAdd, Nat.reduceMul, Nat.reduceSub, Nat.reduceLeDiff, Int.reduceToNat, Int.reduceLT, Int.reduceLE, Int.reduceEq, Int.reduceNeg, Int.reduceSub, Int.reduceAdd, Int.reduceMul]
      refine callF_of (Tryz.c34 a b (by omega)) ?_
      simp only [evA, evB, evC, forall_const, implies_true, initE, stepF, D.clean, mvF, moF, tkF, shF, ariF, ciF, catF, scF, ebF, eqF, eqOk, eqPr, enF, notF, ngF, cvF, csF, csbF, lenF, lenSF, ixF, iaF, PX.slot, iaAF, faF, ldF, D.mem, stF, bxF, mkSF, boundF, fldF, mmF2, D.plain, D.isPure, optAll, D.dull, callVF, splice, D.cells, D.one, sets, resT, D.flat, D.flat0, D.simple, Nat.reduceBNe, Nat.reduceLT, reduceIte, Nat.reduceEqDiff, Nat.reduceAdd, Nat.reduceMul, Nat.reduceSub, Nat.reduceLeDiff, Int.reduceToNat, Int.reduceLT, Int.reduceLE, Int.reduceEq, Int.reduceNeg, Int.reduceSub, Int.reduceAdd, Int.reduceMul]
      have hjl : (jnL a b).length ≤ 60 := by
        by_cases h : jnE a b = 0
        · exact (jnE_ok hA.nd hB.nd h).2
        · have : jnL a b = [] := if_neg h
          rw [this]; exact Nat.zero_le _
      refine callF_of (Tryz.c18 (jnL a b) (by omega)) ?_
      simp only [evA, evB, evC, forall_const, implies_true, initE, stepF, D.clean, mvF, moF, tkF, shF, ariF, ciF, catF, scF, ebF, eqF, eqOk, eqPr, enF, notF, ngF, cvF, csF, csbF, lenF, lenSF, ixF, iaF, PX.slot, iaAF, faF, ldF, D.mem, stF, bxF, mkSF, boundF, fldF, mmF2, D.plain, D.isPure, optAll, D.dull, callVF, splice, D.cells, D.one, sets, resT, D.flat, D.flat0, D.simple, Nat.reduceBNe, Nat.reduceLT, reduceIte, Nat.reduceEqDiff, Nat.reduceAdd, Nat.reduceMul, Nat.reduceSub, Nat.reduceLeDiff, Int.reduceToNat, Int.reduceLT, Int.reduceLE, Int.reduceEq, Int.reduceNeg, Int.reduceSub, Int.reduceAdd, Int.reduceMul]
      intro h0
      have h0 : jnE a b = 0 := Decidable.of_not_not h0
      have hJ := hA.joined hB h0
      obtain ⟨ok, _⟩ := jnE_ok hA.nd hB.nd h0
      have oka := rs_of ok.fa hA.nd hA.pos
      have okb := rs_of ok.fb hB.nd hB.pos
      generalize jnL a b = j at hjl hJ ok oka okb ⊢
      refine loopF_of (fun E => ∃ k : Nat, k ≤ 2 ∧ E = [(7, .sl j.length (lays j)), (69, .own true 28 2 [.sl a.length (lays a), .sl b.length (lays b)]), (70, .int .i64 2), (71, .int .i64 k)])
        (fun E => match lk E 71 with | .int _ i => 2 - i.toNat | _ => 0) ⟨0, Nat.zero_le _, rfl⟩ ?_
      rintro _ ⟨k, hk, rfl⟩
      have hk3 : k = 0 ∨ k = 1 ∨ k = 2 := by omega
      rcases hk3 with rfl | rfl | rfl
      · simp only [evA, evB, evC, forall_const, implies_true, initE, stepF, D.clean, mvF, moF, tkF, shF, ariF, ciF, catF, scF, ebF, eqF, eqOk, eqPr, enF, notF, ngF, cvF, csF, csbF, lenF, lenSF, ixF, iaF, PX.slot, iaAF, faF, ldF, D.mem, stF, bxF, mkSF, boundF, fldF, mmF2, D.plain, D.isPure, optAll, D.dull, callVF, splice, D.cells, D.one, sets, resT, D.flat, D.flat0, D.simple, Nat.reduceBNe, Nat.reduceLT, reduceIte, Nat.reduceEqDiff, Nat.reduceAdd, Nat.reduceMul, Nat.reduceSub, Nat.reduceLeDiff, Int.reduceToNat, Int.reduceLT, Int.reduceLE, Int.reduceEq, Int.reduceNeg, Int.reduceSub, Int.reduceAdd, Int.reduceMul]
        refine fun _ => ⟨by omega, ?_⟩
        have h33 := Tryz.c33 j (a.map Lay.u) (by omega) (by rw [List.length_map]; omega) hJ.check
        rw [oka.1, oka.2, List.length_map] at h33
        refine callF_of (Tryz.c35 a (by omega) hA.check) ?_
        simp only [evA, evB, evC, forall_const, implies_true, initE, stepF, D.clean, mvF, moF, tkF, shF, ariF, ciF, catF, scF, ebF, eqF, eqOk, eqPr, enF, notF, ngF, cvF, csF, csbF, lenF, lenSF, ixF, iaF, PX.slot, iaAF, faF, ldF, D.mem, stF, bxF, mkSF, boundF, fldF, mmF2, D.plain, D.isPure, optAll, D.dull, callVF, splice, D.cells, D.one, sets, resT, D.flat, D.flat0, D.simple, Nat.reduceBNe, Nat.reduceLT, reduceIte, Nat.reduceEqDiff, Nat.reduceAdd, Nat.reduceMul, Nat.reduceSub, Nat.reduceLeDiff, Int.reduceToNat, Int.reduceLT, Int.reduceLE, Int.reduceEq, Int.reduceNeg, Int.reduceSub, Int.reduceAdd, Int.reduceMul]
        refine callF_of h33 ?_
        simp only [evA, evB, evC, forall_const, implies_true, initE, stepF, D.clean, mvF, moF, tkF, shF, ariF, ciF, catF, scF, ebF, eqF, eqOk, eqPr, enF, notF, ngF, cvF, csF, csbF, lenF, lenSF, ixF, iaF, PX.slot, iaAF, faF, ldF, D.mem, stF, bxF, mkSF, boundF, fldF, mmF2, D.plain, D.isPure, optAll, D.dull, callVF, splice, D.cells, D.one, sets, resT, D.flat, D.flat0, D.simple, Nat.reduceBNe, Nat.reduceLT, reduceIte, Nat.reduceEqDiff, Nat.reduceAdd, Nat.reduceMul, Nat.reduceSub, Nat.reduceLeDiff, Int.reduceToNat, Int.reduceLT, Int.reduceLE, Int.reduceEq, Int.reduceNeg, Int.reduceSub, Int.reduceAdd, Int.reduceMul]
        refine callF_of (Tryz.c18 a (by omega)) ?_
        simp only [evA, evB, evC, forall_const, implies_true, initE, stepF, D.clean, mvF, moF, tkF, shF, ariF, ciF, catF, scF, ebF, eqF, eqOk, eqPr, enF, notF, ngF, cvF, csF, csbF, lenF, lenSF, ixF, iaF, PX.slot, iaAF, faF, ldF, D.mem, stF, bxF, mkSF, boundF, fldF, mmF2, D.plain, D.isPure, optAll, D.dull, callVF, splice, D.cells, D.one, sets, resT, D.flat, D.flat0, D.simple, Nat.reduceBNe, Nat.reduceLT, reduceIte, Nat.reduceEqDiff, Nat.reduceAdd, Nat.reduceMul, Nat.reduceSub, Nat.reduceLeDiff, Int.reduceToNat, Int.reduceLT, Int.reduceLE, Int.reduceEq, Int.reduceNeg, Int.reduceSub, Int.reduceAdd, Int.reduceMul]
        exact ⟨by omega, ⟨1, by omega, rfl⟩, by omega⟩
      · simp only [evA, evB, evC, forall_const, implies_true, initE, stepF, D.clean, mvF, moF, tkF, shF, ariF, ciF, catF, scF, ebF, eqF, eqOk, eqPr, enF, notF, ngF, cvF, csF, csbF, lenF, lenSF, ixF, iaF, PX.slot, iaAF, faF, ldF, D.mem, stF, bxF, mkSF, boundF, fldF, mmF2, D.plain, D.isPure, optAll, D.dull, callVF, splice, D.cells, D.one, sets, resT, D.flat, D.flat0, D.simple, Nat.reduceBNe, Nat.reduceLT, reduceIte, Nat.reduceEqDiff, Nat.reduceAdd, Nat.reduceMul, Nat.reduceSub, Nat.reduceLeDiff, Int.reduceToNat, Int.reduceLT, Int.reduceLE, Int.reduceEq, Int.reduceNeg, Int.reduceSub, Int.reduceAdd, Int.reduceMul]
        refine fun _ => ⟨by omega, ?_⟩
        have h33 := Tryz.c33 j (b.map Lay.u) (by omega) (by rw [List.length_map]; omega) hJ.check
        rw [okb.1, okb.2, List.length_map] at h33
        refine callF_of (Tryz.c35 b (by omega) hB.check) ?_
        simp only [evA, evB, evC, forall_const, implies_true, initE, stepF, D.clean, mvF, moF, tkF, shF, ariF, ciF, catF, scF, ebF, eqF, eqOk, eqPr, enF, notF, ngF, cvF, csF, csbF, lenF, lenSF, ixF, iaF, PX.slot, iaAF, faF, ldF, D.mem, stF, bxF, mkSF, boundF, fldF, mmF2, D.plain, D.isPure, optAll, D.dull, callVF, splice, D.cells, D.one, sets, resT, D.flat, D.flat0, D.simple, Nat.reduceBNe, Nat.reduceLT, reduceIte, Nat.reduceEqDiff, Nat.reduceAdd, Nat.reduceMul, Nat.reduceSub, Nat.reduceLeDiff, Int.reduceToNat, Int.reduceLT, Int.reduceLE, Int.reduceEq, Int.reduceNeg, Int.reduceSub, Int.reduceAdd, Int.reduceMul]
        refine callF_of h33 ?_
        simp only [evA, evB, evC, forall_const, implies_true, initE, stepF, D.clean, mvF, moF, tkF, shF, ariF, ciF, catF, scF, ebF, eqF, eqOk, eqPr, enF, notF, ngF, cvF, csF, csbF, lenF, lenSF, ixF, iaF, PX.slot, iaAF, faF, ldF, D.mem, stF, bxF, mkSF, boundF, fldF, mmF2, D.plain, D.isPure, optAll, D.dull, callVF, splice, D.cells, D.one, sets, resT, D.flat, D.flat0, D.simple, Nat.reduceBNe, Nat.reduceLT, reduceIte, Nat.reduceEqDiff, Nat.reduceAdd, Nat.reduceMul, Nat.reduceSub, Nat.reduceLeDiff, Int.reduceToNat, Int.reduceLT, Int.reduceLE, Int.reduceEq, Int.reduceNeg, Int.reduceSub, Int.reduceAdd, Int.reduceMul]
        refine callF_of (Tryz.c18 b (by omega)) ?_
        simp only [evA, evB, evC, forall_const, implies_true, initE, stepF, D.clean, mvF, moF, tkF, shF, ariF, ciF, catF, scF, ebF, eqF, eqOk, eqPr, enF, notF, ngF, cvF, csF, csbF, lenF, lenSF, ixF, iaF, PX.slot, iaAF, faF, ldF, D.mem, stF, bxF, mkSF, boundF, fldF, mmF2, D.plain, D.isPure, optAll, D.dull, callVF, splice, D.cells, D.one, sets, resT, D.flat, D.flat0, D.simple, Nat.reduceBNe, Nat.reduceLT, reduceIte, Nat.reduceEqDiff, Nat.reduceAdd, Nat.reduceMul, Nat.reduceSub, Nat.reduceLeDiff, Int.reduceToNat, Int.reduceLT, Int.reduceLE, Int.reduceEq, Int.reduceNeg, Int.reduceSub, Int.reduceAdd, Int.reduceMul]
        exact ⟨by omega, ⟨2, by omega, rfl⟩, by omega⟩
      · simp only [evA, evB, evC, forall_const, implies_true, initE, stepF, D.clean, mvF, moF, tkF, shF, ariF, ciF, catF, scF, ebF, eqF, eqOk, eqPr, enF, notF, ngF, cvF, csF, csbF, lenF, lenSF, ixF, iaF, PX.slot, iaAF, faF, ldF, D.mem, stF, bxF, mkSF, boundF, fldF, mmF2, D.plain, D.isPure, optAll, D.dull, callVF, splice, D.cells, D.one, sets, resT, D.flat, D.flat0, D.simple, Nat.reduceBNe, Nat.reduceLT, reduceIte, Nat.reduceEqDiff, Nat.reduceAdd, Nat.reduceMul, Nat.reduceSub, Nat.reduceLeDiff, Int.reduceToNat, Int.reduceLT, Int.reduceLE, Int.reduceEq, Int.reduceNeg, Int.reduceSub, Int.reduceAdd, Int.reduceMul]
        exact fun h => by omega
    · have hl := hA.len
      have hl2 := hB.len
      refine callF_of (Tryz.c17 a b (by omega) hA.check hB.check) ?_
      simp only [evA, evB, evC, forall_const, implies_true, initE, stepF, D.clean, mvF, moF, tkF, shF, ariF, ciF, catF, scF, ebF, eqF, eqOk, eqPr, enF, notF, ngF, cvF, csF, csbF, lenF, lenSF, ixF, iaF, PX.slot, iaAF, faF, ldF, D.mem, stF, bxF, mkSF, boundF, fldF, mmF2, D.plain, D.isPure, optAll, D.dull, callVF, splice, D.cells, D.one, sets, resT, D.flat, D.flat0, D.simple, Nat.reduceBNe, Nat.reduceLT, reduceIte, Nat.reduceEqDiff, Nat.reduceAdd, Nat.reduceMul, Nat.reduceSub, Nat.reduceLeDiff, Int.reduceToNat, Int.reduceLT, Int.reduceLE, Int.reduceEq, Int.reduceNeg, Int.reduceSub, Int.reduceAdd, Int.reduceMul]
      refine callF_of (Tryz.c34 a b (by omega)) ?_
      simp only [evA, evB, evC, forall_const, implies_true, initE, stepF, D.clean, mvF, moF, tkF, shF, ariF, ciF, catF, scF, ebF, eqF, eqOk, eqPr, enF, notF, ngF, cvF, csF, csbF, lenF, lenSF, ixF, iaF, PX.slot, iaAF, faF, ldF, D.mem, stF, bxF, mkSF, boundF, fldF, mmF2, D.plain, D.isPure, optAll, D.dull, callVF, splice, D.cells, D.one, sets, resT, D.flat, D.flat0, D.simple, Nat.reduceBNe, Nat.reduceLT, reduceIte, Nat.reduceEqDiff, Nat.reduceAdd, Nat.reduceMul, Nat.reduceSub, Nat.reduceLeDiff, Int.reduceToNat, Int.reduceLT, Int.reduceLE, Int.reduceEq, Int.reduceNeg, Int.reduceSub, Int.reduceAdd, Int.reduceMul]
      have hjl : (jnL a b).length ≤ 60 := by
        by_cases h : jnE a b = 0
        · exact (jnE_ok hA.nd hB.nd h).2
        · have : jnL a b = [] := if_neg h
          rw [this]; exact Nat.zero_le _
      refine callF_of (Tryz.c18 (jnL a b) (by omega)) ?_
      simp only [evA, evB, evC, forall_const, implies_true, initE, stepF, D.clean, mvF, moF, tkF, shF, ariF, ciF, catF, scF, ebF, eqF, eqOk, eqPr, enF, notF, ngF, cvF, csF, csbF, lenF, lenSF, ixF, iaF, PX.slot, iaAF, faF, ldF, D.mem, stF, bxF, mkSF, boundF, fldF, mmF2, D.plain, D.isPure, optAll, D.dull, callVF, splice, D.cells, D.one, sets, resT, D.flat, D.flat0, D.simple, Nat.reduceBNe, Nat.reduceLT, reduceIte, Nat.reduceEqDiff, Nat.reduceAdd, Nat.reduceMul, Nat.reduceSub, Nat.reduceLeDiff, Int.reduceToNat, Int.reduceLT, Int.reduceLE, Int.reduceEq, Int.reduceNeg, Int.reduceSub, Int.reduceAdd, Int.reduceMul]
      intro h0
      have h0 : jnE a b = 0 := Decidable.of_not_not h0
      have hJ := hA.joined hB h0
      obtain ⟨ok, _⟩ := jnE_ok hA.nd hB.nd h0
      have oka := rs_of ok.fa hA.nd hA.pos
      have okb := rs_of ok.fb hB.nd hB.pos
      generalize jnL a b = j at hjl hJ ok oka okb ⊢
      refine loopF_of (fun E => ∃ k : Nat, k ≤ 2 ∧ E = [(7, .sl j.length (lays j)), (69, .own true 28 2 [.sl a.length (lays a), .sl b.length (lays b)]), (70, .int .i64 2), (71, .int .i64 k)])
        (fun E => match lk E 71 with | .int _ i => 2 - i.toNat | _ => 0) ⟨0, Nat.zero_le _, rfl⟩ ?_
      rintro _ ⟨k, hk, rfl⟩
      have hk3 : k = 0 ∨ k = 1 ∨ k = 2 := by omega
      rcases hk3 with rfl | rfl | rfl
      · simp only [evA, evB, evC, forall_const, implies_true, initE, stepF, D.clean, mvF, moF, tkF, shF, ariF, ciF, catF, scF, ebF, eqF, eqOk, eqPr, enF, notF, ngF, cvF, csF, csbF, lenF, lenSF, ixF, iaF, PX.slot, iaAF, faF, ldF, D.mem, stF, bxF, mkSF, boundF, fldF, mmF2, D.plain, D.isPure, optAll, D.dull, callVF, splice, D.cells, D.one, sets, resT, D.flat, D.flat0, D.simple, Nat.reduceBNe, Nat.reduceLT, reduceIte, Nat.reduceEqDiff, Nat.reduceAdd, Nat.reduceMul, Nat.reduceSub, Nat.reduceLeDiff, Int.reduceToNat, Int.reduceLT, Int.reduceLE, Int.reduceEq, Int.reduceNeg, Int.reduceSub, Int.reduceAdd, Int.reduceMul]
        refine fun _ => ⟨by omega, ?_⟩
        have h33 := Tryz.c33 j (a.map Lay.u) (by omega) (by rw [List.length_map]; omega) hJ.check
        rw [oka.1, oka.2, List.length_map] at h33
        refine callF_of (Tryz.c35 a (by omega) hA.check) ?_
        simp only [evA, evB, evC, forall_const, implies_true, initE, stepF, D.clean, mvF, moF, tkF, shF, ariF, ciF, catF, scF, ebF, eqF, eqOk, eqPr, enF, notF, ngF, cvF, csF, csbF, lenF, lenSF, ixF, iaF, PX.slot, iaAF, faF, ldF, D.mem, stF, bxF, mkSF, boundF, fldF, mmF2, D.plain, D.isPure, optAll, D.dull, callVF, splice, D.cells, D.one, sets, resT, D.flat, D.flat0, D.simple, Nat.reduceBNe, Nat.reduceLT, reduceIte, Nat.reduceEqDiff, Nat.reduceAdd, Nat.reduceMul, Nat.reduceSub, Nat.reduceLeDiff, Int.reduceToNat, Int.reduceLT, Int.reduceLE, Int.reduceEq, Int.reduceNeg, Int.reduceSub, Int.reduceAdd, Int.reduceMul]
        refine callF_of h33 ?_
        simp only [evA, evB, evC, forall_const, implies_true, initE, stepF, D.clean, mvF, moF, tkF, shF, ariF, ciF, catF, scF, ebF, eqF, eqOk, eqPr, enF, notF, ngF, cvF, csF, csbF, lenF, lenSF, ixF, iaF, PX.slot, iaAF, faF, ldF, D.mem, stF, bxF, mkSF, boundF, fldF, mmF2, D.plain, D.isPure, optAll, D.dull, callVF, splice, D.cells, D.one, sets, resT, D.flat, D.flat0, D.simple, Nat.reduceBNe, Nat.reduceLT, reduceIte, Nat.reduceEqDiff, Nat.reduceAdd, Nat.reduceMul, Nat.reduceSub, Nat.reduceLeDiff, Int.reduceToNat, Int.reduceLT, Int.reduceLE, Int.reduceEq, Int.reduceNeg, Int.reduceSub, Int.reduceAdd, Int.reduceMul]
        refine callF_of (Tryz.c18 a (by omega)) ?_
        simp only [evA, evB, evC, forall_const, implies_true, initE, stepF, D.clean, mvF, moF, tkF, shF, ariF, ciF, catF, scF, ebF, eqF, eqOk, eqPr, enF, notF, ngF, cvF, csF, csbF, lenF, lenSF, ixF, iaF, PX.slot, iaAF, faF, ldF, D.mem, stF, bxF, mkSF, boundF, fldF, mmF2, D.plain, D.isPure, optAll, D.dull, callVF, splice, D.cells, D.one, sets, resT, D.flat, D.flat0, D.simple, Nat.reduceBNe, Nat.reduceLT, reduceIte, Nat.reduceEqDiff, Nat.reduceAdd, Nat.reduceMul, Nat.reduceSub, Nat.reduceLeDiff, Int.reduceToNat, Int.reduceLT, Int.reduceLE, Int.reduceEq, Int.reduceNeg, Int.reduceSub, Int.reduceAdd, Int.reduceMul]
        exact ⟨by omega, ⟨1, by omega, rfl⟩, by omega⟩
      · simp only [evA, evB, evC, forall_const, implies_true, initE, stepF, D.clean, mvF, moF, tkF, shF, ariF, ciF, catF, scF, ebF, eqF, eqOk, eqPr, enF, notF, ngF, cvF, csF, csbF, lenF, lenSF, ixF, iaF, PX.slot, iaAF, faF, ldF, D.mem, stF, bxF, mkSF, boundF, fldF, mmF2, D.plain, D.isPure, optAll, D.dull, callVF, splice, D.cells, D.one, sets, resT, D.flat, D.flat0, D.simple, Nat.reduceBNe, Nat.reduceLT, reduceIte, Nat.reduceEqDiff, Nat.reduceAdd, Nat.reduceMul, Nat.reduceSub, Nat.reduceLeDiff, Int.reduceToNat, Int.reduceLT, Int.reduceLE, Int.reduceEq, Int.reduceNeg, Int.reduceSub, Int.reduceAdd, Int.reduceMul]
        refine fun _ => ⟨by omega, ?_⟩
        have h33 := Tryz.c33 j (b.map Lay.u) (by omega) (by rw [List.length_map]; omega) hJ.check
        rw [okb.1, okb.2, List.length_map] at h33
        refine callF_of (Tryz.c35 b (by omega) hB.check) ?_
        simp only [evA, evB, evC, forall_const, implies_true, initE, stepF, D.clean, mvF, moF, tkF, shF, ariF, ciF, catF, scF, ebF, eqF, eqOk, eqPr, enF, notF, ngF, cvF, csF, csbF, lenF, lenSF, ixF, iaF, PX.slot, iaAF, faF, ldF, D.mem, stF, bxF, mkSF, boundF, fldF, mmF2, D.plain, D.isPure, optAll, D.dull, callVF, splice, D.cells, D.one, sets, resT, D.flat, D.flat0, D.simple, Nat.reduceBNe, Nat.reduceLT, reduceIte, Nat.reduceEqDiff, Nat.reduceAdd, Nat.reduceMul, Nat.reduceSub, Nat.reduceLeDiff, Int.reduceToNat, Int.reduceLT, Int.reduceLE, Int.reduceEq, Int.reduceNeg, Int.reduceSub, Int.reduceAdd, Int.reduceMul]
        refine callF_of h33 ?_
        simp only [evA, evB, evC, forall_const, implies_true, initE, stepF, D.clean, mvF, moF, tkF, shF, ariF, ciF, catF, scF, ebF, eqF, eqOk, eqPr, enF, notF, ngF, cvF, csF, csbF, lenF, lenSF, ixF, iaF, PX.slot, iaAF, faF, ldF, D.mem, stF, bxF, mkSF, boundF, fldF, mmF2, D.plain, D.isPure, optAll, D.dull, callVF, splice, D.cells, D.one, sets, resT, D.flat, D.flat0, D.simple, Nat.reduceBNe, Nat.reduceLT, reduceIte, Nat.reduceEqDiff, Nat.reduceAdd, Nat.reduceMul, Nat.reduceSub, Nat.reduceLeDiff, Int.reduceToNat, Int.reduceLT, Int.reduceLE, Int.reduceEq, Int.reduceNeg, Int.reduceSub, Int.reduceAdd, Int.reduceMul]
        refine callF_of (Tryz.c18 b (by omega)) ?_
        simp only [evA, evB, evC, forall_const, implies_true, initE, stepF, D.clean, mvF, moF, tkF, shF, ariF, ciF, catF, scF, ebF, eqF, eqOk, eqPr, enF, notF, ngF, cvF, csF, csbF, lenF, lenSF, ixF, iaF, PX.slot, iaAF, faF, ldF, D.mem, stF, bxF, mkSF, boundF, fldF, mmF2, D.plain, D.isPure, optAll, D.dull, callVF, splice, D.cells, D.one, sets, resT, D.flat, D.flat0, D.simple, Nat.reduceBNe, Nat.reduceLT, reduceIte, Nat.reduceEqDiff, Nat.reduceAdd, Nat.reduceMul, Nat.reduceSub, Nat.reduceLeDiff, Int.reduceToNat, Int.reduceLT, Int.reduceLE, Int.reduceEq, Int.reduceNeg, Int.reduceSub, Int.reduceAdd, Int.reduceMul]
        exact ⟨by omega, ⟨2, by omega, rfl⟩, by omega⟩
      · simp only [evA, evB, evC, forall_const, implies_true, initE, stepF, D.clean, mvF, moF, tkF, shF, ariF, ciF, catF, scF, ebF, eqF, eqOk, eqPr, enF, notF, ngF, cvF, csF, csbF, lenF, lenSF, ixF, iaF, PX.slot, iaAF, faF, ldF, D.mem, stF, bxF, mkSF, boundF, fldF, mmF2, D.plain, D.isPure, optAll, D.dull, callVF, splice, D.cells, D.one, sets, resT, D.flat, D.flat0, D.simple, Nat.reduceBNe, Nat.reduceLT, reduceIte, Nat.reduceEqDiff, Nat.reduceAdd, Nat.reduceMul, Nat.reduceSub, Nat.reduceLeDiff, Int.reduceToNat, Int.reduceLT, Int.reduceLE, Int.reduceEq, Int.reduceNeg, Int.reduceSub, Int.reduceAdd, Int.reduceMul]
        exact fun h => by omega
  · simp only [evA, evB, evC, forall_const, implies_true, initE, stepF, D.clean, mvF, moF, tkF, shF, ariF, ciF, catF, scF, ebF, eqF, eqOk, eqPr, enF, notF, ngF, cvF, csF, csbF, lenF, lenSF, ixF, iaF, PX.slot, iaAF, faF, ldF, D.mem, stF, bxF, mkSF, boundF, fldF, mmF2, D.plain, D.isPure, optAll, D.dull, callVF, splice, D.cells, D.one, sets, resT, D.flat, D.flat0, D.simple, Nat.reduceBNe, Nat.reduceLT, reduceIte, Nat.reduceEqDiff, Nat.reduceAdd, Nat.reduceMul, Nat.reduceSub, Nat.reduceLeDiff, Int.reduceToNat, Int.reduceLT, Int.reduceLE, Int.reduceEq, Int.reduceNeg, Int.reduceSub, Int.reduceAdd, Int.reduceMul, z_lt, s_lt]
    have hl := hA.len
    have hl2 := hB.len
    refine callF_of (Tryz.c17 a b (by omega) hA.check hB.check) ?_
    simp only [evA, evB, evC, forall_const, implies_true, initE, stepF, D.clean, mvF, moF, tkF, shF, ariF, ciF, catF, scF, ebF, eqF, eqOk, eqPr, enF, notF, ngF, cvF, csF, csbF, lenF, lenSF, ixF, iaF, PX.slot, iaAF, faF, ldF, D.mem, stF, bxF, mkSF, boundF, fldF, mmF2, D.plain, D.isPure, optAll, D.dull, callVF, splice, D.cells, D.one, sets, resT, D.flat, D.flat0, D.simple, Nat.reduceBNe, Nat.reduceLT, reduceIte, Nat.reduceEqDiff, Nat.reduceAdd, Nat.reduceMul, Nat.reduceSub, Nat.reduceLeDiff, Int.reduceToNat, Int.reduceLT, Int.reduceLE, Int.reduceEq, Int.reduceNeg, Int.reduceSub, Int.reduceAdd, Int.reduceMul]
    refine callF_of (Tryz.c34 a b (by omega)) ?_
    simp only [evA, evB, evC, forall_const, implies_true, initE, stepF, D.clean, mvF, moF, tkF, shF, ariF, ciF, catF, scF, ebF, eqF, eqOk, eqPr, enF, notF, ngF, cvF, csF, csbF, lenF, lenSF, ixF, iaF, PX.slot, iaAF, faF, ldF, D.mem, stF, bxF, mkSF, boundF, fldF, mmF2, D.plain, D.isPure, optAll, D.dull, callVF, splice, D.cells, D.one, sets, resT, D.flat, D.flat0, D.simple, Nat.reduceBNe, Nat.reduceLT, reduceIte, Nat.reduceEqDiff, Nat.reduceAdd, Nat.reduceMul, Nat.reduceSub, Nat.reduceLeDiff, Int.reduceToNat, Int.reduceLT, Int.reduceLE, Int.reduceEq, Int.reduceNeg, Int.reduceSub, Int.reduceAdd, Int.reduceMul]
    have hjl : (jnL a b).length ≤ 60 := by
      by_cases h : jnE a b = 0
      · exact (jnE_ok hA.nd hB.nd h).2
      · have : jnL a b = [] := if_neg h
        rw [this]; exact Nat.zero_le _
    refine callF_of (Tryz.c18 (jnL a b) (by omega)) ?_
    simp only [evA, evB, evC, forall_const, implies_true, initE, stepF, D.clean, mvF, moF, tkF, shF, ariF, ciF, catF, scF, ebF, eqF, eqOk, eqPr, enF, notF, ngF, cvF, csF, csbF, lenF, lenSF, ixF, iaF, PX.slot, iaAF, faF, ldF, D.mem, stF, bxF, mkSF, boundF, fldF, mmF2, D.plain, D.isPure, optAll, D.dull, callVF, splice, D.cells, D.one, sets, resT, D.flat, D.flat0, D.simple, Nat.reduceBNe, Nat.reduceLT, reduceIte, Nat.reduceEqDiff, Nat.reduceAdd, Nat.reduceMul, Nat.reduceSub, Nat.reduceLeDiff, Int.reduceToNat, Int.reduceLT, Int.reduceLE, Int.reduceEq, Int.reduceNeg, Int.reduceSub, Int.reduceAdd, Int.reduceMul]
    intro h0
    have h0 : jnE a b = 0 := Decidable.of_not_not h0
    have hJ := hA.joined hB h0
    obtain ⟨ok, _⟩ := jnE_ok hA.nd hB.nd h0
    have oka := rs_of ok.fa hA.nd hA.pos
    have okb := rs_of ok.fb hB.nd hB.pos
    generalize jnL a b = j at hjl hJ ok oka okb ⊢
    refine loopF_of (fun E => ∃ k : Nat, k ≤ 2 ∧ E = [(7, .sl j.length (lays j)), (69, .own true 28 2 [.sl a.length (lays a), .sl b.length (lays b)]), (70, .int .i64 2), (71, .int .i64 k)])
      (fun E => match lk E 71 with | .int _ i => 2 - i.toNat | _ => 0) ⟨0, Nat.zero_le _, rfl⟩ ?_
    rintro _ ⟨k, hk, rfl⟩
    have hk3 : k = 0 ∨ k = 1 ∨ k = 2 := by omega
    rcases hk3 with rfl | rfl | rfl
    · simp only [evA, evB, evC, forall_const, implies_true, initE, stepF, D.clean, mvF, moF, tkF, shF, ariF, ciF, catF, scF, ebF, eqF, eqOk, eqPr, enF, notF, ngF, cvF, csF, csbF, lenF, lenSF, ixF, iaF, PX.slot, iaAF, faF, ldF, D.mem, stF, bxF, mkSF, boundF, fldF, mmF2, D.plain, D.isPure, optAll, D.dull, callVF, splice, D.cells, D.one, sets, resT, D.flat, D.flat0, D.simple, Nat.reduceBNe, Nat.reduceLT, reduceIte, Nat.reduceEqDiff, Nat.reduceAdd, Nat.reduceMul, Nat.reduceSub, Nat.reduceLeDiff, Int.reduceToNat, Int.reduceLT, Int.reduceLE, Int.reduceEq, Int.reduceNeg, Int.reduceSub, Int.reduceAdd, Int.reduceMul]
      refine fun _ => ⟨by omega, ?_⟩
      have h33 := Tryz.c33 j (a.map Lay.u) (by omega) (by rw [List.length_map]; omega) hJ.check
      rw [oka.1, oka.2, List.length_map] at h33
      refine callF_of (Tryz.c35 a (by omega) hA.check) ?_
      simp only [evA, evB, evC, forall_const, implies_true, initE, stepF, D.clean, mvF, moF, tkF, shF, ariF, ciF, catF, scF, ebF, eqF, eqOk, eqPr, enF, notF, ngF, cvF, csF, csbF, lenF, lenSF, ixF, iaF, PX.slot, iaAF, faF, ldF, D.mem, stF, bxF, mkSF, boundF, fldF, mmF2, D.plain, D.isPure, optAll, D.dull, callVF, splice, D.cells, D.one, sets, resT, D.flat, D.flat0, D.simple, Nat.reduceBNe, Nat.reduceLT, reduceIte, Nat.reduceEqDiff, Nat.reduceAdd, Nat.reduceMul, Nat.reduceSub, Nat.reduceLeDiff, Int.reduceToNat, Int.reduceLT, Int.reduceLE, Int.reduceEq, Int.reduceNeg, Int.reduceSub, Int.reduceAdd, Int.reduceMul]
      refine callF_of h33 ?_
      simp only [evA, evB, evC, forall_const, implies_true, initE, stepF, D.clean, mvF, moF, tkF, shF, ariF, ciF, catF, scF, ebF, eqF, eqOk, eqPr, enF, notF, ngF, cvF, csF, csbF, lenF, lenSF, ixF, iaF, PX.slot, iaAF, faF, ldF, D.mem, stF, bxF, mkSF, boundF, fldF, mmF2, D.plain, D.isPure, optAll, D.dull, callVF, splice, D.cells, D.one, sets, resT, D.flat, D.flat0, D.simple, Nat.reduceBNe, Nat.reduceLT, reduceIte, Nat.reduceEqDiff, Nat.reduceAdd, Nat.reduceMul, Nat.reduceSub, Nat.reduceLeDiff, Int.reduceToNat, Int.reduceLT, Int.reduceLE, Int.reduceEq, Int.reduceNeg, Int.reduceSub, Int.reduceAdd, Int.reduceMul]
      refine callF_of (Tryz.c18 a (by omega)) ?_
      simp only [evA, evB, evC, forall_const, implies_true, initE, stepF, D.clean, mvF, moF, tkF, shF, ariF, ciF, catF, scF, ebF, eqF, eqOk, eqPr, enF, notF, ngF, cvF, csF, csbF, lenF, lenSF, ixF, iaF, PX.slot, iaAF, faF, ldF, D.mem, stF, bxF, mkSF, boundF, fldF, mmF2, D.plain, D.isPure, optAll, D.dull, callVF, splice, D.cells, D.one, sets, resT, D.flat, D.flat0, D.simple, Nat.reduceBNe, Nat.reduceLT, reduceIte, Nat.reduceEqDiff, Nat.reduceAdd, Nat.reduceMul, Nat.reduceSub, Nat.reduceLeDiff, Int.reduceToNat, Int.reduceLT, Int.reduceLE, Int.reduceEq, Int.reduceNeg, Int.reduceSub, Int.reduceAdd, Int.reduceMul]
      exact ⟨by omega, ⟨1, by omega, rfl⟩, by omega⟩
    · simp only [evA, evB, evC, forall_const, implies_true, initE, stepF, D.clean, mvF, moF, tkF, shF, ariF, ciF, catF, scF, ebF, eqF, eqOk, eqPr, enF, notF, ngF, cvF, csF, csbF, lenF, lenSF, ixF, iaF, PX.slot, iaAF, faF, ldF, D.mem, stF, bxF, mkSF, boundF, fldF, mmF2, D.plain, D.isPure, optAll, D.dull, callVF, splice, D.cells, D.one, sets, resT, D.flat, D.flat0, D.simple, Nat.reduceBNe, Nat.reduceLT, reduceIte, Nat.reduceEqDiff, Nat.reduceAdd, Nat.reduceMul, Nat.reduceSub, Nat.reduceLeDiff, Int.reduceToNat, Int.reduceLT, Int.reduceLE, Int.reduceEq, Int.reduceNeg, Int.reduceSub, Int.reduceAdd, Int.reduceMul]
      refine fun _ => ⟨by omega, ?_⟩
      have h33 := Tryz.c33 j (b.map Lay.u) (by omega) (by rw [List.length_map]; omega) hJ.check
      rw [okb.1, okb.2, List.length_map] at h33
      refine callF_of (Tryz.c35 b (by omega) hB.check) ?_
      simp only [evA, evB, evC, forall_const, implies_true, initE, stepF, D.clean, mvF, moF, tkF, shF, ariF, ciF, catF, scF, ebF, eqF, eqOk, eqPr, enF, notF, ngF, cvF, csF, csbF, lenF, lenSF, ixF, iaF, PX.slot, iaAF, faF, ldF, D.mem, stF, bxF, mkSF, boundF, fldF, mmF2, D.plain, D.isPure, optAll, D.dull, callVF, splice, D.cells, D.one, sets, resT, D.flat, D.flat0, D.simple, Nat.reduceBNe, Nat.reduceLT, reduceIte, Nat.reduceEqDiff, Nat.reduceAdd, Nat.reduceMul, Nat.reduceSub, Nat.reduceLeDiff, Int.reduceToNat, Int.reduceLT, Int.reduceLE, Int.reduceEq, Int.reduceNeg, Int.reduceSub, Int.reduceAdd, Int.reduceMul]
      refine callF_of h33 ?_
      simp only [evA, evB, evC, forall_const, implies_true, initE, stepF, D.clean, mvF, moF, tkF, shF, ariF, ciF, catF, scF, ebF, eqF, eqOk, eqPr, enF, notF, ngF, cvF, csF, csbF, lenF, lenSF, ixF, iaF, PX.slot, iaAF, faF, ldF, D.mem, stF, bxF, mkSF, boundF, fldF, mmF2, D.plain, D.isPure, optAll, D.dull, callVF, splice, D.cells, D.one, sets, resT, D.flat, D.flat0, D.simple, Nat.reduceBNe, Nat.reduceLT, reduceIte, Nat.reduceEqDiff, Nat.reduceAdd, Nat.reduceMul, Nat.reduceSub, Nat.reduceLeDiff, Int.reduceToNat, Int.reduceLT, Int.reduceLE, Int.reduceEq, Int.reduceNeg, Int.reduceSub, Int.reduceAdd, Int.reduceMul]
      refine callF_of (Tryz.c18 b (by omega)) ?_
      simp only [evA, evB, evC, forall_const, implies_true, initE, stepF, D.clean, mvF, moF, tkF, shF, ariF, ciF, catF, scF, ebF, eqF, eqOk, eqPr, enF, notF, ngF, cvF, csF, csbF, lenF, lenSF, ixF, iaF, PX.slot, iaAF, faF, ldF, D.mem, stF, bxF, mkSF, boundF, fldF, mmF2, D.plain, D.isPure, optAll, D.dull, callVF, splice, D.cells, D.one, sets, resT, D.flat, D.flat0, D.simple, Nat.reduceBNe, Nat.reduceLT, reduceIte, Nat.reduceEqDiff, Nat.reduceAdd, Nat.reduceMul, Nat.reduceSub, Nat.reduceLeDiff, Int.reduceToNat, Int.reduceLT, Int.reduceLE, Int.reduceEq, Int.reduceNeg, Int.reduceSub, Int.reduceAdd, Int.reduceMul]
      exact ⟨by omega, ⟨2, by omega, rfl⟩, by omega⟩
    · simp only [evA, evB, evC, forall_const, implies_true, initE, stepF, D.clean, mvF, moF, tkF, shF, ariF, ciF, catF, scF, ebF, eqF, eqOk, eqPr, enF, notF, ngF, cvF, csF, csbF, lenF, lenSF, ixF, iaF, PX.slot, iaAF, faF, ldF, D.mem, stF, bxF, mkSF, boundF, fldF, mmF2, D.plain, D.isPure, optAll, D.dull, callVF, splice, D.cells, D.one, sets, resT, D.flat, D.flat0, D.simple, Nat.reduceBNe, Nat.reduceLT, reduceIte, Nat.reduceEqDiff, Nat.reduceAdd, Nat.reduceMul, Nat.reduceSub, Nat.reduceLeDiff, Int.reduceToNat, Int.reduceLT, Int.reduceLE, Int.reduceEq, Int.reduceNeg, Int.reduceSub, Int.reduceAdd, Int.reduceMul]
      exact fun h => by omega
end Go.Proofs

/-
  SEAT 22: slices.DeleteFunc of a clone. Own work.
-/
namespace Go.Proofs
open Go Go.Pi Go.RowKit

theorem cu41 {L : World → Prop} : ∀ c, Tryz.f41.body = some c → ∀ q ∈ cusL c pc41, CusOk Tryz.prog L q.1 q.2.1 q.2.2 := by
  intro c hc q hq
  cases Option.some.inj hc
  simp only [pc41, cusL, List.nil_append, List.append_nil, List.mem_singleton, List.cons_append] at hq
  subst hq
  exact nilT_ok rfl rfl rfl rfl rfl rfl rfl Tryz.underlying28 (by decide) (by decide) (by decide)

theorem Tryz.c41 (l : List Lay) (hl : l.length ≤ 1000) : Con Tryz.prog Tryz.L 41 [.sl l.length (lays l)] (.own true 39 l.length (lays l)) := by
  refine rule41 Tryz.hL (fun q hq => by simp [PC.backs, pc41] at hq) cu41 rfl rfl rfl ?_
  simp only [pc41, rs41, nilT_f, evA, evB, evC, forall_const, implies_true, initE, stepF, D.clean, mvF, moF, tkF, shF, ariF, ciF, catF, scF, ebF, eqF, eqOk, eqPr, enF, notF, ngF, cvF, csF, csbF, lenF, lenSF, ixF, iaF, PX.slot, iaAF, faF, ldF, D.mem, stF, bxF, mkSF, boundF, fldF, mmF2, D.plain, D.isPure, optAll, D.dull, callVF, splice, D.cells, D.one, sets, resT, D.flat, D.flat0, D.simple, Nat.reduceBNe, Nat.reduceLT, reduceIte, Nat.reduceEqDiff, Nat.reduceAdd, Nat.reduceMul, Nat.reduceSub, Nat.reduceLeDiff, Int.reduceToNat, Int.reduceLT, Int.reduceLE, Int.reduceEq, Int.reduceNeg, Int.reduceSub, Int.reduceAdd, Int.reduceMul]
  refine ⟨l.length, lays l, rfl, fun b hb0 => ?_⟩
  cases b
  · simp only [evA, evB, evC, forall_const, implies_true, initE, stepF, D.clean, mvF, moF, tkF, shF, ariF, ciF, catF, scF, ebF, eqF, eqOk, eqPr, enF, notF, ngF, cvF, csF, csbF, lenF, lenSF, ixF, iaF, PX.slot, iaAF, faF, ldF, D.mem, stF, bxF, mkSF, boundF, fldF, mmF2, D.plain, D.isPure, optAll, D.dull, callVF, splice, D.cells, D.one, sets, resT, D.flat, D.flat0, D.simple, Nat.reduceBNe, Nat.reduceLT, reduceIte, Nat.reduceEqDiff, Nat.reduceAdd, Nat.reduceMul, Nat.reduceSub, Nat.reduceLeDiff, Int.reduceToNat, Int.reduceLT, Int.reduceLE, Int.reduceEq, Int.reduceNeg, Int.reduceSub, Int.reduceAdd, Int.reduceMul]
    exact ⟨rows_length Lay.d_len _, by omega, by omega⟩
  · have : l = [] := List.eq_nil_of_length_eq_zero (hb0 rfl)
    subst this
    simp only [evA, evB, evC, forall_const, implies_true, initE, stepF, D.clean, mvF, moF, tkF, shF, ariF, ciF, catF, scF, ebF, eqF, eqOk, eqPr, enF, notF, ngF, cvF, csF, csbF, lenF, lenSF, ixF, iaF, PX.slot, iaAF, faF, ldF, D.mem, stF, bxF, mkSF, boundF, fldF, mmF2, D.plain, D.isPure, optAll, D.dull, callVF, splice, D.cells, D.one, sets, resT, D.flat, D.flat0, D.simple, Nat.reduceBNe, Nat.reduceLT, reduceIte, Nat.reduceEqDiff, Nat.reduceAdd, Nat.reduceMul, Nat.reduceSub, Nat.reduceLeDiff, Int.reduceToNat, Int.reduceLT, Int.reduceLE, Int.reduceEq, Int.reduceNeg, Int.reduceSub, Int.reduceAdd, Int.reduceMul]
    rfl

theorem Tryz.c42 (us : List (List UInt8)) (hu : us.length ≤ 2000000) (x : Lay) : Con Tryz.prog Tryz.L 42 ([.agg x.d] ++ [.pt [.sl us.length (strs us)]]) (.bool (!has us x.u)) := by
  refine rule42 Tryz.hL rfl rfl rfl ?_
  simp only [pc42, rs42, Lay.d, evA, evB, evC, forall_const, implies_true, initE, stepF, D.clean, mvF, moF, tkF, shF, ariF, ciF, catF, scF, ebF, eqF, eqOk, eqPr, enF, notF, ngF, cvF, csF, csbF, lenF, lenSF, ixF, iaF, PX.slot, iaAF, faF, ldF, D.mem, stF, bxF, mkSF, boundF, fldF, mmF2, D.plain, D.isPure, optAll, D.dull, callVF, splice, D.cells, D.one, sets, resT, D.flat, D.flat0, D.simple, Nat.reduceBNe, Nat.reduceLT, reduceIte, Nat.reduceEqDiff, Nat.reduceAdd, Nat.reduceMul, Nat.reduceSub, Nat.reduceLeDiff, Int.reduceToNat, Int.reduceLT, Int.reduceLE, Int.reduceEq, Int.reduceNeg, Int.reduceSub, Int.reduceAdd, Int.reduceMul]
  refine callF_of (Tryz.c39 us x.u hu) ?_
  simp only [evA, evB, evC, forall_const, implies_true, initE, stepF, D.clean, mvF, moF, tkF, shF, ariF, ciF, catF, scF, ebF, eqF, eqOk, eqPr, enF, notF, ngF, cvF, csF, csbF, lenF, lenSF, ixF, iaF, PX.slot, iaAF, faF, ldF, D.mem, stF, bxF, mkSF, boundF, fldF, mmF2, D.plain, D.isPure, optAll, D.dull, callVF, splice, D.cells, D.one, sets, resT, D.flat, D.flat0, D.simple, Nat.reduceBNe, Nat.reduceLT, reduceIte, Nat.reduceEqDiff, Nat.reduceAdd, Nat.reduceMul, Nat.reduceSub, Nat.reduceLeDiff, Int.reduceToNat, Int.reduceLT, Int.reduceLE, Int.reduceEq, Int.reduceNeg, Int.reduceSub, Int.reduceAdd, Int.reduceMul]
  unfold has
  rw [dB_neg]

theorem cu40 : ∀ c, Tryz.f40.body = some c → ∀ q ∈ cusL c pc40, CusOk Tryz.prog Tryz.L q.1 q.2.1 q.2.2 := by
  intro c hc q hq
  cases Option.some.inj hc
  simp only [pc40, cusL, List.nil_append, List.append_nil, List.mem_singleton, List.cons_append] at hq
  subst hq
  exact clearT_ok rfl rfl rfl rfl rfl rfl rfl rfl rfl rfl rfl rfl rfl Tryz.underlying28 (by kernel_rfl) (by kernel_rfl) rfl (by decide) (by decide) (by decide) (by decide) (by decide) (by decide) (by decide) (by decide) (by decide)

theorem ldC_layO {l : List Lay} {k t : Nat} {N : EP} {E : Env} : ldC true 3 (List.drop (k * 3) (lays l)) t N E = (∃ x, l[k]? = some x ∧ N (st1 E t (.agg x.d))) := by
  unfold ldC
  cases h : l[k]? with
  | none =>
    have hk : l.length ≤ k := by simpa using h
    have e : List.drop (k * 3) (lays l) = [] := by rw [List.drop_eq_nil_of_le (by rw [rows_length Lay.d_len]; omega)]
    rw [e]; simp [ofCells]
  | some x =>
    rw [ofCells_rows Lay.d_len h]
    simp

theorem stG_lays {s k m e : Nat} {cur : List Lay} {x : Lay} {N : EP} {E : Env} : stG 3 s (k * 3) (.own true e m (lays cur)) (.agg x.d) N E = (k < cur.length ∧ N (st1 E s (.own true e m (lays (cur.set k x))))) := by
  simp only [stG, D.wr, D.cells, D.mem, D.isPure, D.setMem, Lay.d_len, rows_length Lay.d_len]
  by_cases h : k < cur.length
  · have e1 : splice (lays cur) (k * 3) x.d = lays (cur.set k x) := by
      have e2 : k * 3 + x.d.length = (k + 1) * 3 := by rw [Lay.d_len]; omega
      simp only [splice]
      rw [e2, rows_take Lay.d_len, rows_drop Lay.d_len, List.set_eq_take_append_cons_drop, if_pos h]
      show _ = rows Lay.d (List.take k cur ++ x :: List.drop (k + 1) cur)
      rw [rows_append, rows_cons, List.append_assoc]
    rw [e1]
    simp [h, Lay.d, D.one, show k * 3 + 3 ≤ cur.length * 3 by omega]
  · simp [h, show ¬ k * 3 + 3 ≤ cur.length * 3 by omega]

theorem idxA_take {p : Lay → Bool} : ∀ (l : List Lay) (k : Nat), 0 ≤ idxA p l k → ∃ i, i < l.length ∧ idxA p l k = (k + i : Nat) ∧ (l.take (i + 1)).filter (fun x => !p x) = l.take i
  | [], k, h => absurd h (by simp [idxA])
  | x :: l, k, h => by
    by_cases hx : p x = true
    · exact ⟨0, by simp, by simp [idxA, hx], by simp [hx]⟩
    · have e : idxA p (x :: l) k = idxA p l (k + 1) := by simp [idxA, hx]
      rw [e] at h
      obtain ⟨i, h1, h2, h3⟩ := idxA_take l (k + 1) h
      refine ⟨i + 1, by simp; omega, by rw [e, h2]; congr 1; omega, ?_⟩
      rw [List.take_succ_cons, List.filter_cons_of_pos (by simpa using hx), h3, List.take_succ_cons]

set_option maxHeartbeats 2000000 in
theorem Tryz.w40 {f : Nat} {caps : List D} (p : Lay → Bool) (l : List Lay) (hl : l.length ≤ 1000) (hc0 : ∀ d ∈ caps, aliasOf d = none) (h : ∀ x ∈ l, Con Tryz.prog Tryz.L f ([.agg x.d] ++ caps) (.bool (p x))) :
    ConW Tryz.prog Tryz.L 40 39 l.length (lays l) [.clo f caps] (l.filter (fun x => !p x)).length (lays (l.filter (fun x => !p x))) := by
  refine con_chkW Tryz.hL Tryz.func40 chk40 (fun q hq => by simp [PC.backs, pc40] at hq) cu40 rfl rfl (wC_sound ?_)
  simp only [pc40, rs40, clearT_f, retW_ret, evA, evB, evC, forall_const, implies_true, initE, stepF, D.clean, mvF, moF, tkF, shF, ariF, ciF, catF, scF, ebF, eqF, eqOk, eqPr, enF, notF, ngF, cvF, csF, csbF, lenF, lenSF, ixF, iaF, PX.slot, iaAF, faF, ldF, D.mem, stF, bxF, mkSF, boundF, fldF, mmF2, D.plain, D.isPure, optAll, D.dull, callVF, splice, D.cells, D.one, sets, resT, D.flat, D.flat0, D.simple, Nat.reduceBNe, Nat.reduceLT, reduceIte, Nat.reduceEqDiff, Nat.reduceAdd, Nat.reduceMul, Nat.reduceSub, Nat.reduceLeDiff, Int.reduceToNat, Int.reduceLT, Int.reduceLE, Int.reduceEq, Int.reduceNeg, Int.reduceSub, Int.reduceAdd, Int.reduceMul]
  refine callF_of (Tryz.c58 p l hl h) ?_
  simp only [evA, evB, evC, forall_const, implies_true, initE, stepF, D.clean, mvF, moF, tkF, shF, ariF, ciF, catF, scF, ebF, eqF, eqOk, eqPr, enF, notF, ngF, cvF, csF, csbF, lenF, lenSF, ixF, iaF, PX.slot, iaAF, faF, ldF, D.mem, stF, bxF, mkSF, boundF, fldF, mmF2, D.plain, D.isPure, optAll, D.dull, callVF, splice, D.cells, D.one, sets, resT, D.flat, D.flat0, D.simple, Nat.reduceBNe, Nat.reduceLT, reduceIte, Nat.reduceEqDiff, Nat.reduceAdd, Nat.reduceMul, Nat.reduceSub, Nat.reduceLeDiff, Int.reduceToNat, Int.reduceLT, Int.reduceLE, Int.reduceEq, Int.reduceNeg, Int.reduceSub, Int.reduceAdd, Int.reduceMul, clearT_f, retW_ret]
  refine ⟨fun hi => ⟨_, rfl, .inr ⟨true, 39, ?_⟩⟩, fun hi => ?_⟩
  · have e : l.filter (fun x => !p x) = l := List.filter_eq_self.2 fun x hx => by
      rw [idxA_ge (p := p) (l := l) (k := 0) (by show ¬0 ≤ idx p l; omega) x hx]; rfl
    rw [e]
  · have hlo : idx p l = -1 ∨ _ := idxA_small (p := p) (l := l) (k := 0)
    obtain ⟨i0, q1, q2, q3⟩ := idxA_take (p := p) l 0 (by show 0 ≤ idx p l; rcases hlo with h | h; exact absurd h hi; have := h.1; show (0 : Int) ≤ idxA p l 0; omega)
    have q2 : idx p l = (i0 : Nat) := by rw [← Nat.zero_add i0]; exact q2
    rw [q2]
    refine ⟨by omega, ?_⟩
    refine loopF_of (fun E => ∃ (i j : Nat) (cur : List Lay), i < j ∧ j ≤ l.length ∧ cur.length = l.length ∧ cur.take i = (l.take j).filter (fun x => !p x) ∧ cur.drop j = l.drop j ∧
        E = [(0, .own true 39 l.length (lays cur)), (1, .clo f caps), (5, .int .i64 i), (6, .int .i64 j)])
      (fun E => match lk E 6 with | .int _ i => l.length - i.toNat | _ => 0) ⟨i0, i0 + 1, l, by omega, by omega, rfl, q3.symm, rfl, rfl⟩ ?_
    rintro _ ⟨i, j, cur, hij, hj, hcl, ht, hd, rfl⟩
    simp only [evA, evB, evC, forall_const, implies_true, initE, stepF, D.clean, mvF, moF, tkF, shF, ariF, ciF, catF, scF, ebF, eqF, eqOk, eqPr, enF, notF, ngF, cvF, csF, csbF, lenF, lenSF, ixF, iaF, PX.slot, iaAF, faF, ldF, D.mem, stF, bxF, mkSF, boundF, fldF, mmF2, D.plain, D.isPure, optAll, D.dull, callVF, splice, D.cells, D.one, sets, resT, D.flat, D.flat0, D.simple, Nat.reduceBNe, Nat.reduceLT, reduceIte, Nat.reduceEqDiff, Nat.reduceAdd, Nat.reduceMul, Nat.reduceSub, Nat.reduceLeDiff, Int.reduceToNat, Int.reduceLT, Int.reduceLE, Int.reduceEq, Int.reduceNeg, Int.reduceSub, Int.reduceAdd, Int.reduceMul, ldC_lays, Lay.d, clearT_f, retW_ret]
    refine ⟨fun h1 => ?_, fun h1 => ?_⟩
    · have hx : l[j]? = some (l[j]'(by omega)) := List.getElem?_eq_getElem (by omega)
      have htk : l.take (j + 1) = l.take j ++ [l[j]'(by omega)] := List.take_succ_eq_append_getElem (by omega)
      generalize l[j]'(by omega) = x at hx htk
      have hcx : cur[j]? = some x := by
        have e1 := congrArg (fun q : List Lay => q[0]?) hd
        simp only [List.getElem?_drop, Nat.add_zero] at e1
        rw [e1]; exact hx
      have hd1 : cur.drop (j + 1) = l.drop (j + 1) := by rw [← List.drop_drop, hd, List.drop_drop]
      refine ⟨⟨by omega, by omega, by rw [rows_length Lay.d_len]; omega⟩, ?_⟩
      rw [ldC_layO]
      refine ⟨x, hcx, ?_⟩
      have hcx1 := h x (List.mem_of_getElem? hx)
      simp only [Lay.d, evA, evB, evC, forall_const, implies_true, initE, stepF, D.clean, mvF, moF, tkF, shF, ariF, ciF, catF, scF, ebF, eqF, eqOk, eqPr, enF, notF, ngF, cvF, csF, csbF, lenF, lenSF, ixF, iaF, PX.slot, iaAF, faF, ldF, D.mem, stF, bxF, mkSF, boundF, fldF, mmF2, D.plain, D.isPure, optAll, D.dull, callVF, splice, D.cells, D.one, sets, resT, D.flat, D.flat0, D.simple, Nat.reduceBNe, Nat.reduceLT, reduceIte, Nat.reduceEqDiff, Nat.reduceAdd, Nat.reduceMul, Nat.reduceSub, Nat.reduceLeDiff, Int.reduceToNat, Int.reduceLT, Int.reduceLE, Int.reduceEq, Int.reduceNeg, Int.reduceSub, Int.reduceAdd, Int.reduceMul] at hcx1 ⊢
      refine callF_of hcx1 ?_
      cases hp : p x with
      | true =>
        simp only [evA, evB, evC, forall_const, implies_true, initE, stepF, D.clean, mvF, moF, tkF, shF, ariF, ciF, catF, scF, ebF, eqF, eqOk, eqPr, enF, notF, ngF, cvF, csF, csbF, lenF, lenSF, ixF, iaF, PX.slot, iaAF, faF, ldF, D.mem, stF, bxF, mkSF, boundF, fldF, mmF2, D.plain, D.isPure, optAll, D.dull, callVF, splice, D.cells, D.one, sets, resT, D.flat, D.flat0, D.simple, Nat.reduceBNe, Nat.reduceLT, reduceIte, Nat.reduceEqDiff, Nat.reduceAdd, Nat.reduceMul, Nat.reduceSub, Nat.reduceLeDiff, Int.reduceToNat, Int.reduceLT, Int.reduceLE, Int.reduceEq, Int.reduceNeg, Int.reduceSub, Int.reduceAdd, Int.reduceMul]
        refine ⟨by omega, ⟨i, j + 1, cur, by omega, by omega, hcl, ?_, hd1, rfl, rfl, rfl⟩, by omega⟩
        rw [ht, htk, List.filter_append, List.filter_cons_of_neg (by simp [hp]), List.filter_nil, List.append_nil]
      | false =>
        simp only [evA, evB, evC, forall_const, implies_true, initE, stepF, D.clean, mvF, moF, tkF, shF, ariF, ciF, catF, scF, ebF, eqF, eqOk, eqPr, enF, notF, ngF, cvF, csF, csbF, lenF, lenSF, ixF, iaF, PX.slot, iaAF, faF, ldF, D.mem, stF, bxF, mkSF, boundF, fldF, mmF2, D.plain, D.isPure, optAll, D.dull, callVF, splice, D.cells, D.one, sets, resT, D.flat, D.flat0, D.simple, Nat.reduceBNe, Nat.reduceLT, reduceIte, Nat.reduceEqDiff, Nat.reduceAdd, Nat.reduceMul, Nat.reduceSub, Nat.reduceLeDiff, Int.reduceToNat, Int.reduceLT, Int.reduceLE, Int.reduceEq, Int.reduceNeg, Int.reduceSub, Int.reduceAdd, Int.reduceMul]
        refine ⟨⟨by omega, by omega, by rw [rows_length Lay.d_len]; omega⟩, ?_⟩
        rw [show D.agg [D.str x.u, D.str x.a, D.str x.b] = .agg x.d from rfl, stG_lays]
        refine ⟨by omega, ?_⟩
        simp only [evA, evB, evC, forall_const, implies_true, initE, stepF, D.clean, mvF, moF, tkF, shF, ariF, ciF, catF, scF, ebF, eqF, eqOk, eqPr, enF, notF, ngF, cvF, csF, csbF, lenF, lenSF, ixF, iaF, PX.slot, iaAF, faF, ldF, D.mem, stF, bxF, mkSF, boundF, fldF, mmF2, D.plain, D.isPure, optAll, D.dull, callVF, splice, D.cells, D.one, sets, resT, D.flat, D.flat0, D.simple, Nat.reduceBNe, Nat.reduceLT, reduceIte, Nat.reduceEqDiff, Nat.reduceAdd, Nat.reduceMul, Nat.reduceSub, Nat.reduceLeDiff, Int.reduceToNat, Int.reduceLT, Int.reduceLE, Int.reduceEq, Int.reduceNeg, Int.reduceSub, Int.reduceAdd, Int.reduceMul]
        refine ⟨by omega, by omega, ⟨i + 1, j + 1, cur.set i x, by omega, by omega, by rw [List.length_set]; exact hcl, ?_, ?_, rfl, rfl, rfl⟩, by omega⟩
        · have e1 : (cur.set i x).take (i + 1) = cur.take i ++ [x] := by
            rw [List.take_succ_eq_append_getElem (by rw [List.length_set]; omega), List.take_set_of_le (Nat.le_refl _), List.getElem_set_self]
          rw [e1, ht, htk, List.filter_append, List.filter_cons_of_pos (by simp [hp]), List.filter_nil]
        · rw [List.drop_set_of_lt (by omega), hd1]
    · have hjn : j = l.length := by omega
      rw [hjn, List.take_length] at ht
      have hil : i = (l.filter (fun x => !p x)).length := by rw [← ht, List.length_take]; omega
      refine ⟨l.length, i, lays cur, rfl, rfl, by omega, by rw [rows_length Lay.d_len, hcl], by omega, by omega, by omega, ?_, _, rfl, .inl ?_⟩
      · simp only [List.length_append, List.length_take, rows_length Lay.d_len, length_flatten_replicate, List.length_cons, List.length_nil]
        omega
      · rw [← ht]
        rw [show (List.take i cur).length = i by rw [List.length_take]; omega]
        congr 1
        have e1 : (List.take (i * 3) (lays cur)).length = i * 3 := by rw [List.length_take, rows_length Lay.d_len]; omega
        rw [cut, List.take_left' e1, rows_take Lay.d_len, Nat.zero_mul, List.drop_zero]
end Go.Proofs
