/-
  SEAT 22: more contracts of the library; column.Text. Own work.
-/
import Derived.Test.YthfgjhnckegneaaGreatDoorPj
import Derived.Test.YthfgjhnckegneaaGreatDoorEa
import Derived.Test.YthfgjhnckegneaaGreatDoorSe
import Derived.Test.YthfgjhnckegneaaGreatDoorEb
import Derived.Test.YthfgjhnckegneaaGreatDoorSc
import Derived.Test.YthfgjhnckegneaaGreatDoorSd
import Derived.Test.YthfgjhnckegneaaGreatDoorPi
import Derived.Test.YthfgjhnckegneaaGreatDoorRb
import Derived.Test.YthfgjhnckegneaaGreatDoorSa
import Derived.Test.YthfgjhnckegneaaGreatDoorSb
namespace Go.Proofs
open Go Go.Pi Go.RowKit

/-- a layer: its unit, its bounds -/
structure Lay where
  u : List UInt8
  a : List UInt8
  b : List UInt8
  deriving DecidableEq

def Lay.d (x : Lay) : List D := [.str x.u, .str x.a, .str x.b]
abbrev lays (l : List Lay) : List D := rows Lay.d l
theorem Lay.d_len (x : Lay) : x.d.length = 3 := rfl

/-- the line of a layer -/
def Lay.line (x : Lay) : List UInt8 := x.u ++ [32] ++ x.a ++ [32] ++ (if x.b = [] then [45] else x.b)
def Lay.small (x : Lay) : Prop := x.u.length ≤ 1000 ∧ x.a.length ≤ 1000 ∧ x.b.length ≤ 1000

theorem Tryz.c13 (l : List Lay) (hs : ∀ x ∈ l, x.small) (hl : l.length ≤ 1000) (hc : Con Tryz.prog Tryz.L 45 [.sl l.length (lays l)] (.int .i64 0)) :
    Con Tryz.prog Tryz.L 13 [.sl l.length (lays l)] (.tup [.sl l.length (strs (l.reverse.map Lay.line)), .int .i64 0]) := by
  refine rule13 Tryz.hL (fun q hq => by simp [PC.backs, pc13] at hq; subst hq; exact back53) rfl rfl rfl ?_
  (simp only [pc13, rs13]; refine ev0 ?_; try with_reducible exact trivial)
  refine callF_of hc ?_
  (refine ev0 ?_; try with_reducible exact trivial)
  refine callF_of (Tryz.c14 _ _) ?_
  (refine ev0 ?_; try with_reducible exact trivial)
  refine rfnF_of (fun k E => ∃ hk : k ≤ l.length, E = [(5, .gbox 1000005), (15, .clo 53 [.pt [.sl l.length (lays l)]]), (1000005, .own true 9 k (strs ((l.reverse.map Lay.line).take k)))])
    (by rw [rows_length Lay.d_len]) ⟨Nat.zero_le _, rfl⟩ (fun k E1 hE => by obtain ⟨_, rfl⟩ := hE; rfl) ?_ ?_
  · rintro _ ⟨_, rfl⟩
    (refine ev0 ?_; try with_reducible exact trivial)
    rw [List.take_of_length_le (by simp)]
    simp [resD_two, rvD, lk, D.plain, D.isPure, optAll]
  · rintro k _ hkm ⟨hk, rfl⟩
    have hx : l[l.length - 1 - k]? = some (l[l.length - 1 - k]'(by omega)) := List.getElem?_eq_getElem (by omega)
    have hr : (l.reverse.map Lay.line).take (k + 1) = (l.reverse.map Lay.line).take k ++ [(l[l.length - 1 - k]'(by omega)).line] := by
      rw [List.take_succ_eq_append_getElem (by simpa using hkm)]
      simp [List.getElem_reverse]
    have hsm := hs _ (List.mem_of_getElem? hx)
    generalize l[l.length - 1 - k]'(by omega) = x at hx hr hsm
    refine ⟨_, ofCells_rows Lay.d_len hx, rfl, ?_⟩
    obtain ⟨h1, h2, h3⟩ := hsm
    ((try simp only [Lay.d]); refine ev0 ?_; try with_reducible exact trivial)
    refine ⟨fun hb => ?_, fun hb => ?_⟩
    all_goals
      simp only [List.length_append, List.length_cons, List.length_nil]
      refine ⟨by omega, by omega, by omega, by omega, by omega, by omega, by omega, ?_⟩
      rw [hr, strs_snoc]
      simp [Lay.line, hb]
end Go.Proofs

/-
  SEAT 22: the table for closed runs; known(). Own work.
-/
namespace Go.Proofs
open Go Go.Pi Go.RowKit

def ext22 (f : Nat) (ds : List D) : Option D :=
  match f, ds with
  | 130, [.str l, .int .u8 n] => if 0 ≤ n ∧ n < 256 then some (.int .i64 (Lib.indexByte l n.toNat.toUInt8)) else none
  | 148, [.str l, .str [c]] => some (.int .i64 (Lib.indexByte l c))
  | 85, [.int .i64 n] => if -9223372036854775808 ≤ n ∧ n ≤ 9223372036854775807 then some (.str (Lib.itoa n)) else none
  | 109, [.str l] => if l.length ≤ 1000 then some (match Lib.atoiAll l with
    | .ok v => .tup [.int .i64 v, .err true]
    | .syntax => .tup [.int .i64 0, .err false]
    | .range => .tup [.int .i64 (Lib.atoiSat l), .err false]) else none
  | 128, [.str a, .str b] => some (.int .i64 (Lib.compareBytes a b))
  | _, _ => none

theorem ext22_ok (f : Nat) (ds : List D) (r : D) (h : ext22 f ds = some r) : Con Tryz.prog Tryz.L f ds r := by
  unfold ext22 at h
  split at h
  · rename_i l n
    split at h <;> cases h
    rename_i hn
    have := Tryz.c130 l n.toNat.toUInt8
    rwa [show ((n.toNat.toUInt8.toNat : Nat) : Int) = n by simp; omega] at this
  · cases h; exact Tryz.c148 _ _
  · split at h <;> cases h
    rename_i hn
    exact Tryz.c85 _ (inR_i64.2 hn)
  · split at h <;> cases h
    exact Tryz.c109 _ (by omega)
  · cases h; exact Tryz.c128 _ _
  · cases h

def tab22 : Tab := ⟨tabFn, ext22⟩
theorem tab22_ok : tab22.Ok Tryz.prog Tryz.L := ⟨tabFn_ok, ext22_ok⟩

def outB (o : Option Out) (b : Bool) : Bool := match o with | some (.val (.bool c)) => c == b | _ => false
def outI (o : Option Out) (n : Int) : Bool := match o with | some (.val (.int .i64 m)) => m == n | _ => false
def outS (o : Option Out) (s : List UInt8) : Bool := match o with | some (.val (.str t)) => t == s | _ => false
theorem outB_ok {o : Option Out} {b : Bool} (h : outB o b = true) : o = some (.val (.bool b)) := by
  unfold outB at h; split at h <;> simp_all
theorem outI_ok {o : Option Out} {b : Int} (h : outI o b = true) : o = some (.val (.int .i64 b)) := by
  unfold outI at h; split at h <;> simp_all
theorem outS_ok {o : Option Out} {b : List UInt8} (h : outS o b = true) : o = some (.val (.str b)) := by
  unfold outS at h; split at h <;> simp_all

/-- Of(1, 2) and so on: the numbers of plans -/
theorem t16 : outS (runJ tab22 1000 (.call 16 [.int .i64 1, .int .i64 2])) [49, 47, 50] = true := by kernel_rfl
theorem t62 : outI (runJ tab22 1000 (.call 62 [.str [49, 47, 50]])) 0 = true := by kernel_rfl
end Go.Proofs

/-
  SEAT 22: the place of a unit; which columns are right. Own work.
-/
namespace Go.Proofs
open Go Go.Pi Go.RowKit

theorem ldC_lays {l : List Lay} {k t : Nat} {N : EP} {E : Env} : ldC true 3 (List.take 3 (List.drop (k * 3) (lays l))) t N E = (∃ x, l[k]? = some x ∧ N (st1 E t (.agg x.d))) := by
  unfold ldC
  cases h : l[k]? with
  | none =>
    have hk : l.length ≤ k := by simpa using h
    have e : List.take 3 (List.drop (k * 3) (lays l)) = [] := by rw [List.drop_eq_nil_of_le (by rw [rows_length Lay.d_len]; omega)]; rfl
    rw [e]; simp [ofCells]
  | some x =>
    obtain ⟨r, e⟩ := rows_at Lay.d_len h
    have e2 : List.take 3 (List.drop (k * 3) (lays l)) = x.d := by rw [e]; rfl
    rw [e2]
    simp [ofCells, Lay.d]

/-- the place of the first element with a property, or -1 -/
def idxA {α : Type} (p : α → Bool) : List α → Nat → Int
  | [], _ => -1
  | x :: r, k => if p x then k else idxA p r (k + 1)
def idx {α : Type} (p : α → Bool) (l : List α) : Int := idxA p l 0

theorem drop_cons {α : Type} {l : List α} {k : Nat} {x : α} (h : l[k]? = some x) : l.drop k = x :: l.drop (k + 1) := by
  obtain ⟨hk, rfl⟩ := List.getElem?_eq_some_iff.1 h
  exact List.drop_eq_getElem_cons hk

theorem Tryz.c58 {f : Nat} {caps : List D} (p : Lay → Bool) (l : List Lay) (hl : l.length ≤ 1000) (h : ∀ x ∈ l, Con Tryz.prog Tryz.L f ([.agg x.d] ++ caps) (.bool (p x))) :
    Con Tryz.prog Tryz.L 58 [.sl l.length (lays l), .clo f caps] (.int .i64 (idx p l)) := by
  refine rule58 Tryz.hL rfl rfl rfl ?_
  (simp only [pc58, rs58]; refine ev0 ?_; try with_reducible exact trivial)
  refine loopF_of (fun E => ∃ k : Nat, k ≤ l.length ∧ idx p l = idxA p (l.drop k) k ∧ E = [(0, .sl l.length (lays l)), (1, .clo f caps), (7, .int .i64 l.length), (8, .int .i64 k)])
    (fun E => match lk E 8 with | .int _ i => l.length - i.toNat | _ => 0) ⟨0, Nat.zero_le _, rfl, rfl⟩ ?_
  rintro _ ⟨k, hk, hi, rfl⟩
  simp only [evA, evB, evC, forall_const, implies_true, initE, stepF, D.clean, mvF, moF, tkF, shF, ariF, ciF, catF, scF, ebF, eqF, eqOk, eqPr, enF, notF, ngF, cvF, csF, csbF, lenF, lenSF, ixF, iaF, PX.slot, iaAF, faF, ldF, D.mem, stF, bxF, mkSF, boundF, fldF, mmF2, D.plain, D.isPure, optAll, D.dull, callVF, splice, D.cells, D.one, sets, resT, D.flat, D.flat0, D.simple, Nat.reduceBNe, Nat.reduceLT, reduceIte, Nat.reduceEqDiff, Nat.reduceAdd, Nat.reduceMul, Nat.reduceSub, Nat.reduceLeDiff, Int.reduceToNat, Int.reduceLT, Int.reduceLE, Int.reduceEq, Int.reduceNeg, Int.reduceSub, Int.reduceAdd, Int.reduceMul, ldC_lays]
  refine ⟨fun h1 => ?_, fun h1 => ?_⟩
  · have hx : l[k]? = some (l[k]'(by omega)) := List.getElem?_eq_getElem (by omega)
    generalize l[k]'(by omega) = x at hx
    have hd := drop_cons hx
    refine ⟨⟨by omega, by rw [rows_length Lay.d_len]; omega⟩, x, hx, ?_⟩
    refine callF_of (h x (List.mem_of_getElem? hx)) ?_
    (refine ev0 ?_; try with_reducible exact trivial)
    rw [hd] at hi
    simp only [idxA] at hi
    cases hp : p x with
    | true =>
      (refine ev0 ?_; try with_reducible exact trivial)
      rw [hi, hp]; rfl
    | false =>
      (refine ev0 ?_; try with_reducible exact trivial)
      have hi2 : idx p l = idxA p (l.drop (k + 1)) (k + 1) := by rw [hi, hp]; rfl
      refine ⟨by omega, ⟨k + 1, by omega, hi2, rfl⟩, by omega⟩
  · have : k = l.length := by omega
    subst this
    rw [hi]; simp [idxA]

theorem Tryz.c86 (x : Lay) (u : List UInt8) : Con Tryz.prog Tryz.L 86 ([.agg x.d] ++ [.pt [.str u]]) (.bool (x.u == u)) := by
  refine rule86 Tryz.hL rfl rfl rfl ?_
  ((try simp only [pc86, rs86, Lay.d]); refine ev0 ?_; try with_reducible exact trivial)
  rw [Bool.eq_iff_iff, dB_iff]; simp

theorem Tryz.c56 (l : List Lay) (u : List UInt8) (hl : l.length ≤ 1000) : Con Tryz.prog Tryz.L 56 [.sl l.length (lays l), .str u] (.int .i64 (idx (fun x => x.u == u) l)) := by
  refine rule56 Tryz.hL rfl rfl rfl ?_
  (simp only [pc56, rs56]; refine ev0 ?_; try with_reducible exact trivial)
  refine callF_of (Tryz.c58 _ l hl fun x _ => Tryz.c86 x u) ?_
  (refine ev0 ?_; try with_reducible exact trivial)

/-- the error of a layer, but for its unit: none -/
theorem Tryz.c77 (x : Lay) (h1 : Con Tryz.prog Tryz.L 62 [.str x.a] (.int .i64 0)) (h2 : x.b ≠ [] → Con Tryz.prog Tryz.L 62 [.str x.b] (.int .i64 0)) :
    Con Tryz.prog Tryz.L 77 [.agg x.d] (.int .i64 0) := by
  refine rule77 Tryz.hL rfl rfl rfl ?_
  ((try simp only [pc77, rs77, Lay.d]); refine ev0 ?_; try with_reducible exact trivial)
  refine callF_of h1 ?_
  (refine ev0 ?_; try with_reducible exact trivial)
  intro hb
  refine callF_of (h2 hb) ?_
  (refine ev0 ?_; try with_reducible exact trivial)

/-- what makes a layer right, as contracts -/
structure LayOk (x : Lay) : Prop where
  n1 : Con Tryz.prog Tryz.L 62 [.str x.a] (.int .i64 0)
  n2 : x.b ≠ [] → Con Tryz.prog Tryz.L 62 [.str x.b] (.int .i64 0)
  nm : Con Tryz.prog Tryz.L 68 [.str x.u] (.bool true)
  sg : ∃ c, 0 ≤ c ∧ Con Tryz.prog Tryz.L 78 [.str x.a] (.int .i64 c)
  cm : x.b ≠ [] → ∃ c, 0 ≤ c ∧ Con Tryz.prog Tryz.L 79 [.str x.b, .str x.a] (.int .i64 c)

theorem idxA_none {α : Type} {p : α → Bool} : ∀ {l : List α} {k : Nat}, (∀ x ∈ l, p x = false) → idxA p l k = -1
  | [], _, _ => rfl
  | x :: l, k, h => by
    simp only [idxA, h x (List.mem_cons_self ..), Bool.false_eq_true, if_false]
    exact idxA_none fun y hy => h y (List.mem_cons_of_mem _ hy)

theorem Tryz.c45 (l : List Lay) (h0 : 0 < l.length) (hl : l.length ≤ 60) (hd : (l.map Lay.u).Nodup) (h : ∀ x ∈ l, LayOk x) : Con Tryz.prog Tryz.L 45 [.sl l.length (lays l)] (.int .i64 0) := by
  refine rule45 Tryz.hL rfl rfl rfl ?_
  (simp only [pc45, rs45]; refine ev0 ?_; try with_reducible exact trivial)
  refine ⟨fun h => by omega, fun _ => ⟨fun h => by omega, fun _ => ?_⟩⟩
  refine loopF_of (fun E => ∃ k : Nat, k ≤ l.length ∧ E = [(0, .sl l.length (lays l)), (14, .sl l.length (lays l)), (15, .int .i64 l.length), (16, .int .i64 k)])
    (fun E => match lk E 16 with | .int _ i => l.length - i.toNat | _ => 0) ⟨0, Nat.zero_le _, rfl⟩ ?_
  rintro _ ⟨k, hk, rfl⟩
  simp only [evA, evB, evC, forall_const, implies_true, initE, stepF, D.clean, mvF, moF, tkF, shF, ariF, ciF, catF, scF, ebF, eqF, eqOk, eqPr, enF, notF, ngF, cvF, csF, csbF, lenF, lenSF, ixF, iaF, PX.slot, iaAF, faF, ldF, D.mem, stF, bxF, mkSF, boundF, fldF, mmF2, D.plain, D.isPure, optAll, D.dull, callVF, splice, D.cells, D.one, sets, resT, D.flat, D.flat0, D.simple, Nat.reduceBNe, Nat.reduceLT, reduceIte, Nat.reduceEqDiff, Nat.reduceAdd, Nat.reduceMul, Nat.reduceSub, Nat.reduceLeDiff, Int.reduceToNat, Int.reduceLT, Int.reduceLE, Int.reduceEq, Int.reduceNeg, Int.reduceSub, Int.reduceAdd, Int.reduceMul, ldC_lays, Lay.d]
  intro h1
  have hx : l[k]? = some (l[k]'(by omega)) := List.getElem?_eq_getElem (by omega)
  have hpre : ∀ y ∈ l.take k, (y.u == (l[k]'(by omega)).u) = false := by
    intro y hy
    obtain ⟨j, hj⟩ := List.getElem?_of_mem hy
    rw [List.getElem?_take] at hj
    split at hj <;> try (cases hj; done)
    rename_i hjk
    obtain ⟨hj2, rfl⟩ := List.getElem?_eq_some_iff.1 hj
    rw [beq_eq_false_iff_ne]
    intro e
    have := (List.nodup_iff_pairwise_ne.1 hd)
    rw [List.pairwise_iff_getElem] at this
    exact this j k (by simpa using hj2) (by simpa using (by omega : k < l.length)) hjk (by simpa using e)
  generalize l[k]'(by omega) = x at hx hpre
  have ok := h x (List.mem_of_getElem? hx)
  refine ⟨⟨by omega, by rw [rows_length Lay.d_len]; omega⟩, x, hx, ?_⟩
  refine callF_of (Tryz.c77 x ok.n1 ok.n2) ?_
  (refine ev0 ?_; try with_reducible exact trivial)
  refine callF_of ok.nm ?_
  (refine ev0 ?_; try with_reducible exact trivial)
  have hck := Tryz.c56 (l.take k) x.u (by rw [List.length_take]; omega)
  rw [show (l.take k).length = k by rw [List.length_take]; omega, show idx (fun y : Lay => y.u == x.u) (l.take k) = -1 from idxA_none hpre] at hck
  refine ⟨by omega, by omega, by omega, by rw [rows_length Lay.d_len], ?_⟩
  rw [cut_rows Lay.d_len, List.drop_zero]
  refine callF_of hck ?_
  (refine ev0 ?_; try with_reducible exact trivial)
  obtain ⟨c, hc0, hc⟩ := ok.sg
  refine callF_of hc ?_
  (refine ev0 ?_; try with_reducible exact trivial)
  refine ⟨fun h => by omega, fun _ => ?_⟩
  refine ⟨fun hb => ?_, fun hb => ?_⟩
  · obtain ⟨c2, hc20, hc2⟩ := ok.cm hb
    refine callF_of hc2 ?_
    (refine ev0 ?_; try with_reducible exact trivial)
    exact ⟨fun h => by omega, fun _ => ⟨by omega, ⟨k + 1, by omega, rfl⟩, by omega⟩⟩
  · exact ⟨by omega, ⟨k + 1, by omega, rfl⟩, by omega⟩
end Go.Proofs

/-
  SEAT 22: the numbers of plans; known(). Own work.
-/
namespace Go.Proofs
open Go Go.Pi Go.RowKit

/-- a number below 100 in digits; k halves -/
def dec2 (n : Nat) : List UInt8 := if n < 10 then [UInt8.ofNat (48 + n)] else [UInt8.ofNat (48 + n / 10), UInt8.ofNat (48 + n % 10)]
def half (k : Nat) : List UInt8 := if k % 2 = 0 then dec2 (k / 2) else dec2 k ++ [47, 50]

theorem all_range {n : Nat} {p : Nat → Bool} (h : (List.range n).all p = true) : ∀ k, k < n → p k = true := fun k hk => List.all_eq_true.1 h k (List.mem_range.2 hk)
theorem all_range2 {n m : Nat} {p : Nat → Nat → Bool} (h : ((List.range n).all fun a => (List.range m).all (p a)) = true) : ∀ a b, a < n → b < m → p a b = true := fun a b ha hb => all_range (all_range h a ha) b hb

theorem run16 : ((List.range 8).all fun a => outS (runJ tab22 1000 (.call 16 [.int .i64 a, .int .i64 2])) (half a)) = true := by kernel_rfl
theorem run25 : ((List.range 4).all fun a => (List.range 7).all fun b => outS (runJ tab22 1000 (.call 25 [.str (half a), .str (half b)])) (half (a + b))) = true := by kernel_rfl
theorem run62 : ((List.range 20).all fun a => outI (runJ tab22 1000 (.call 62 [.str (half a)])) 0) = true := by kernel_rfl
theorem run78 : ((List.range 10).all fun a => outI (runJ tab22 1000 (.call 78 [.str (half a)])) (if a = 0 then 0 else 1)) = true := by kernel_rfl
theorem run79 : ((List.range 4).all fun a => (List.range 7).all fun b => outI (runJ tab22 1000 (.call 79 [.str (half (a + b)), .str (half a)])) (if b = 0 then 0 else 1)) = true := by kernel_rfl
theorem run68 : ((List.range 6).all fun a => outB (runJ tab22 1000 (.call 68 [.str [UInt8.ofNat (65 + a)]])) true) = true := by kernel_rfl

theorem Tryz.c16 (a : Nat) (h : a < 8) : Con Tryz.prog Tryz.L 16 [.int .i64 a, .int .i64 2] (.str (half a)) := con_run Tryz.hL tab22_ok 1000 (outS_ok (all_range run16 a h))
theorem Tryz.c25 (a b : Nat) (ha : a < 4) (hb : b < 7) : Con Tryz.prog Tryz.L 25 [.str (half a), .str (half b)] (.str (half (a + b))) := con_run Tryz.hL tab22_ok 1000 (outS_ok (all_range2 run25 a b ha hb))
theorem Tryz.c62 (a : Nat) (h : a < 20) : Con Tryz.prog Tryz.L 62 [.str (half a)] (.int .i64 0) := con_run Tryz.hL tab22_ok 1000 (outI_ok (all_range run62 a h))
theorem Tryz.c78 (a : Nat) (h : a < 10) : Con Tryz.prog Tryz.L 78 [.str (half a)] (.int .i64 (if a = 0 then 0 else 1)) := con_run Tryz.hL tab22_ok 1000 (outI_ok (all_range run78 a h))
theorem Tryz.c79 (a b : Nat) (ha : a < 4) (hb : b < 7) : Con Tryz.prog Tryz.L 79 [.str (half (a + b)), .str (half a)] (.int .i64 (if b = 0 then 0 else 1)) := con_run Tryz.hL tab22_ok 1000 (outI_ok (all_range2 run79 a b ha hb))
theorem Tryz.c68 (a : Nat) (h : a < 6) : Con Tryz.prog Tryz.L 68 [.str [UInt8.ofNat (65 + a)]] (.bool true) := con_run Tryz.hL tab22_ok 1000 (outB_ok (all_range run68 a h))

/-- the layer of unit k, with a halves as its least, and b more as its most (7: none) -/
def layOf (k a b : Nat) : Lay := ⟨[UInt8.ofNat (65 + k)], half a, if b = 7 then [] else half (a + b)⟩

theorem half_ne (a : Nat) : half a ≠ [] := by unfold half dec2; split <;> split <;> simp

theorem layOf_ok (k a b : Nat) (hk : k < 6) (ha : a < 4) (hb : b < 8) : LayOk (layOf k a b) := by
  refine ⟨Tryz.c62 a (by omega), fun h => ?_, Tryz.c68 k hk, ⟨_, ?_, Tryz.c78 a (by omega)⟩, fun h => ?_⟩
  · simp only [layOf] at h ⊢
    split at h
    · exact absurd rfl h
    · rename_i hb7; rw [if_neg hb7]; exact Tryz.c62 _ (by omega)
  · split <;> omega
  · simp only [layOf] at h ⊢
    split at h
    · exact absurd rfl h
    · rename_i hb7; rw [if_neg hb7]; exact ⟨_, by split <;> omega, Tryz.c79 a b ha (by omega)⟩

def exampleL : List Lay := [layOf 0 2 2, layOf 1 0 6, layOf 2 2 7]
theorem half_small (a : Nat) : (half a).length ≤ 10 := by unfold half dec2; split <;> split <;> simp
theorem layOf_small (k a b : Nat) : (layOf k a b).small := by
  refine ⟨by simp [layOf], by have := half_small a; simp only [layOf]; omega, ?_⟩
  simp only [layOf]
  split
  · simp
  · have := half_small (a + b); omega

theorem Tryz.c13ex : Con Tryz.prog Tryz.L 13 [.sl 3 (lays exampleL)] (.tup [.sl 3 (strs (exampleL.reverse.map Lay.line)), .int .i64 0]) := by
  refine Tryz.c13 exampleL (fun x hx => ?_) (by decide) (Tryz.c45 exampleL (by decide) (by decide) (by decide) fun x hx => ?_)
  all_goals
    simp only [exampleL, List.mem_cons, List.not_mem_nil, or_false] at hx
    rcases hx with rfl | rfl | rfl
  all_goals first
    | exact layOf_small _ _ _
    | exact layOf_ok _ _ _ (by omega) (by omega) (by omega)

def extK (f : Nat) (ds : List D) : Option D :=
  match f, ds with
  | 13, [.sl 3 [.str [65], .str [49], .str [50], .str [66], .str [48], .str [51], .str [67], .str [49], .str []]] => some (.tup [.sl 3 (strs (exampleL.reverse.map Lay.line)), .int .i64 0])
  | f, ds => ext22 f ds
theorem extK_ok (f : Nat) (ds : List D) (r : D) (h : extK f ds = some r) : Con Tryz.prog Tryz.L f ds r := by
  unfold extK at h
  split at h
  · cases h; exact Tryz.c13ex
  · exact ext22_ok _ _ _ h
def tabK : Tab := ⟨tabFn, extK⟩
theorem tabK_ok : tabK.Ok Tryz.prog Tryz.L := ⟨tabFn_ok, extK_ok⟩

theorem run11 : outB (runJ tabK 2000 (.call 11 [])) true = true := by kernel_rfl
theorem Tryz.c11 : Con Tryz.prog Tryz.L 11 [] (.bool true) := con_run Tryz.hL tabK_ok 2000 (outB_ok run11)
end Go.Proofs

/-
  SEAT 22: slices.Clone; Make; slices.Equal. Own work.
-/
namespace Go.Proofs
open Go Go.Pi Go.RowKit

theorem cu49 {L : World → Prop} : ∀ c, Tryz.f49.body = some c → ∀ q ∈ cusL c pc49, CusOk Tryz.prog L q.1 q.2.1 q.2.2 := by
  intro c hc q hq
  cases Option.some.inj hc
  simp only [pc49, cusL, List.nil_append, List.append_nil, List.mem_singleton, List.cons_append] at hq
  subst hq
  exact nilT_ok rfl rfl rfl rfl rfl rfl rfl Tryz.underlying22 (by decide) (by decide) (by decide)

theorem Tryz.c49 (n : Nat) (cs : List D) (hn : cs.length = n) (hb : n ≤ 140737488355328) : Con Tryz.prog Tryz.L 49 [.sl n cs] (.own true 5 n cs) := by
  refine rule49 Tryz.hL (fun q hq => by simp [PC.backs, pc49] at hq) cu49 rfl rfl rfl ?_
  simp only [pc49, rs49, nilT_f, evA, evB, evC, forall_const, implies_true, initE, stepF, D.clean, mvF, moF, tkF, shF, ariF, ciF, catF, scF, ebF, eqF, eqOk, eqPr, enF, notF, ngF, cvF, csF, csbF, lenF, lenSF, ixF, iaF, PX.slot, iaAF, faF, ldF, D.mem, stF, bxF, mkSF, boundF, fldF, mmF2, D.plain, D.isPure, optAll, D.dull, callVF, splice, D.cells, D.one, sets, resT, D.flat, D.flat0, D.simple, Nat.reduceBNe, Nat.reduceLT, reduceIte, Nat.reduceEqDiff, Nat.reduceAdd, Nat.reduceMul, Nat.reduceSub, Nat.reduceLeDiff, Int.reduceToNat, Int.reduceLT, Int.reduceLE, Int.reduceEq, Int.reduceNeg, Int.reduceSub, Int.reduceAdd, Int.reduceMul]
  refine ⟨n, cs, rfl, fun b hb0 => ?_⟩
  cases b
  · (refine ev0 ?_; try with_reducible exact trivial)
    omega
  · have := hb0 rfl
    subst this
    have : cs = [] := List.eq_nil_of_length_eq_zero hn
    subst this
    (refine ev0 ?_; try with_reducible exact trivial)

theorem Tryz.c50 : Con Tryz.prog Tryz.L 50 [] (.own true 9 6 [.str [65], .str [66], .str [67], .str [68], .str [69], .str [70]]) := by
  refine rule50 Tryz.hL rfl rfl rfl ?_
  (simp only [pc50, rs50]; refine ev0 ?_; try with_reducible exact trivial)

theorem Tryz.c52 (x : Lay) (u : List UInt8) : Con Tryz.prog Tryz.L 52 ([.agg x.d] ++ [.pt [.str u]]) (.bool (x.u == u)) := by
  refine rule52 Tryz.hL rfl rfl rfl ?_
  ((try simp only [pc52, rs52, Lay.d]); refine ev0 ?_; try with_reducible exact trivial)
  rw [Bool.eq_iff_iff, dB_iff]; simp

theorem Tryz.c51 {f : Nat} {caps : List D} (p : Lay → Bool) (l : List Lay) (hl : l.length ≤ 1000) (h : ∀ x ∈ l, Con Tryz.prog Tryz.L f ([.agg x.d] ++ caps) (.bool (p x))) :
    Con Tryz.prog Tryz.L 51 [.sl l.length (lays l), .clo f caps] (.bool (dB (0 ≤ idx p l))) := by
  refine rule51 Tryz.hL rfl rfl rfl ?_
  (simp only [pc51, rs51]; refine ev0 ?_; try with_reducible exact trivial)
  refine callF_of (Tryz.c58 p l hl h) ?_
  (refine ev0 ?_; try with_reducible exact trivial)

/-! ### Make -/
/-- a plan: its list, its eight bytes -/
structure Pl where
  us : List Int
  a0 : Int
  b0 : Int
  a1 : Int
  b1 : Int
  a2 : Int
  b2 : Int
  a3 : Int
  b3 : Int

def Pl.d (p : Pl) : D := .agg [.sl p.us.length (ints .u8 p.us), .int .u8 p.a0, .int .u8 p.b0, .int .u8 p.a1, .int .u8 p.b1, .int .u8 p.a2, .int .u8 p.b2, .int .u8 p.a3, .int .u8 p.b3]
def isByte (x : Int) : Prop := 0 ≤ x ∧ x < 256
structure Pl.ok (p : Pl) : Prop where
  len : p.us.length ≤ 140737488355327
  us : ∀ x ∈ p.us, isByte x
  a0 : isByte p.a0
  b0 : isByte p.b0
  a1 : isByte p.a1
  b1 : isByte p.b1
  a2 : isByte p.a2
  b2 : isByte p.b2
  a3 : isByte p.a3
  b3 : isByte p.b3

def Pl.at (p : Pl) (k : Nat) : Int × Int := match k with
  | 0 => (p.a0, p.b0)
  | 1 => (p.a1, p.b1)
  | 2 => (p.a2, p.b2)
  | 3 => (p.a3, p.b3)
  | 4 => (p.a0, p.b0)
  | _ => (p.a1, p.b1)

/-- one unit of a plan -/
def Pl.lay (p : Pl) (k : Nat) : Lay := layOf k ((p.at k).1 % 4).toNat ((p.at k).2 % 8).toNat
def mkStep (p : Pl) (out : List Lay) (x : Int) : List Lay :=
  if out.length = 4 ∨ 0 ≤ idx (fun y => y.u == [UInt8.ofNat (65 + (x % 6).toNat)]) out then out else out ++ [p.lay (x % 6).toNat]
def Pl.make (p : Pl) : List Lay := (p.us ++ [0]).foldl (mkStep p) []

theorem foldl_len (p : Pl) : ∀ (l : List Int) (out : List Lay), out.length ≤ 4 → (l.foldl (mkStep p) out).length ≤ 4
  | [], out, h => h
  | x :: l, out, h => by
    refine foldl_len p l _ ?_
    unfold mkStep
    split
    · exact h
    · rename_i hn; simp; omega

theorem tmod_nn {x y : Int} (hx : 0 ≤ x) : x.tmod y = x % y := Int.tmod_eq_emod_of_nonneg hx

theorem lays_snoc {out : List Lay} {x : Lay} : lays (out ++ [x]) = lays out ++ x.d := rows_snoc
theorem snocL (out : List Lay) (x : Lay) {u a b : List UInt8} (hx : x = ⟨u, a, b⟩) : D.own true 39 (out.length + 1) (lays out ++ [.str u, .str a, .str b]) = .own true 39 (out ++ [x]).length (lays (out ++ [x])) := by
  rw [List.length_append, lays_snoc, hx]; rfl
theorem layOf7 (k a b : Nat) (h : ¬¬((b : Int) = 7)) : layOf k a b = ⟨[UInt8.ofNat (65 + k)], half a, []⟩ := by unfold layOf; rw [if_pos (by omega)]
theorem layOf8 (k a b : Nat) (h : ¬((b : Int) = 7)) : layOf k a b = ⟨[UInt8.ofNat (65 + k)], half a, half (a + b)⟩ := by unfold layOf; rw [if_neg (by omega)]
theorem l8 (y : Int) : (y % 8).toNat < 8 := by omega
theorem l84 (y : Int) : (y % 4).toNat < 4 := by omega
theorem l4 (y : Int) : (y % 4).toNat < 8 := by omega
theorem r4 (y : Int) : -9223372036854775808 ≤ ((y % 4).toNat : Int) ∧ ((y % 4).toNat : Int) ≤ 9223372036854775807 := by omega
theorem r8 (y : Int) : -9223372036854775808 ≤ ((y % 8).toNat : Int) ∧ ((y % 8).toNat : Int) ≤ 9223372036854775807 := by omega
set_option maxHeartbeats 2000000 in
theorem Tryz.c12 (p : Pl) (hp : p.ok) : Con Tryz.prog Tryz.L 12 [p.d] (.own true 39 p.make.length (lays p.make)) := by
  have hlen := hp.len
  refine rule12 Tryz.hL rfl rfl rfl ?_
  ((try simp only [pc12, rs12, Pl.d]); refine ev0 ?_; try with_reducible exact trivial)
  refine callF_of (Tryz.c49 _ _ ints_length (by omega)) ?_
  (refine ev0 ?_; try with_reducible exact trivial)
  refine ⟨by omega, by omega, ?_⟩
  refine loopF_of (fun E => ∃ (k : Nat) (out : List Lay), k ≤ p.us.length + 1 ∧ out.length ≤ 4 ∧ p.make = ((p.us ++ [0]).drop k).foldl (mkStep p) out ∧
      E = [(1, .box true [.sl p.us.length (ints .u8 p.us), .int .u8 p.a0, .int .u8 p.b0, .int .u8 p.a1, .int .u8 p.b1, .int .u8 p.a2, .int .u8 p.b2, .int .u8 p.a3, .int .u8 p.b3]),
        (3, .own true 39 out.length (lays out)), (13, .own true 5 (p.us.length + 1) (ints .u8 (p.us ++ [0]))), (14, .int .i64 (p.us.length + 1 : Nat)), (15, .int .i64 k)])
    (fun E => match lk E 15 with | .int _ i => p.us.length + 1 - i.toNat | _ => 0) ⟨0, [], Nat.zero_le _, Nat.zero_le _, rfl, rfl⟩ ?_
  rintro _ ⟨k, out, hk, hout, hmk, rfl⟩
  (refine ev0 ?_; try with_reducible exact trivial)
  refine ⟨fun h1 => ?_, fun h1 => ?_⟩
  · have hx : (p.us ++ [0])[k]? = some ((p.us ++ [0])[k]'(by simp; omega)) := List.getElem?_eq_getElem _
    have hxb : isByte ((p.us ++ [0])[k]'(by simp; omega)) := by
      have hm := List.mem_of_getElem? hx
      rw [List.mem_append] at hm
      rcases hm with hm | hm
      · exact hp.us _ hm
      · rw [List.mem_singleton.1 hm]; exact ⟨by omega, by omega⟩
    have hg : (p.us ++ [0]).getD k 0 = (p.us ++ [0])[k]'(by simp; omega) := by rw [List.getD_eq_getElem?_getD, hx]; rfl
    rw [hg]
    generalize (p.us ++ [0])[k]'(by simp; omega) = x at hx hxb
    rw [drop_cons hx, List.foldl_cons] at hmk
    refine ⟨⟨by omega, by simp [ints_length]; omega⟩, by simp; omega, ?_⟩
    refine callF_of Tryz.c50 ?_
    (refine ev0 ?_; try with_reducible exact trivial)
    have hx0 := hxb.1
    have hc : x % 6 = 0 ∨ x % 6 = 1 ∨ x % 6 = 2 ∨ x % 6 = 3 ∨ x % 6 = 4 ∨ x % 6 = 5 := by omega
    have t6 : x.tmod 6 = x % 6 := tmod_nn hx0
    have tm : ∀ y, isByte y → y.tmod 4 = ((y % 4).toNat : Int) ∧ y.tmod 8 = ((y % 8).toNat : Int) := fun y hy => by
      rw [tmod_nn hy.1, tmod_nn hy.1]; omega
    clear hg
    have hstep : mkStep p out x = if out.length = 4 ∨ 0 ≤ idx (fun y : Lay => y.u == [UInt8.ofNat (65 + (x % 6).toNat)]) out then out else out ++ [p.lay (x % 6).toNat] := rfl
    rcases hc with hc | hc | hc | hc | hc | hc
    all_goals
      rw [hc] at t6 hstep
      simp only [Int.reduceToNat, Nat.reduceAdd, UInt8.reduceOfNat] at hstep
      simp only [t6, evA, evB, evC, forall_const, implies_true, initE, stepF, D.clean, mvF, moF, tkF, shF, ariF, ciF, catF, scF, ebF, eqF, eqOk, eqPr, enF, notF, ngF, cvF, csF, csbF, lenF, lenSF, ixF, iaF, PX.slot, iaAF, faF, ldF, D.mem, stF, bxF, mkSF, boundF, fldF, mmF2, D.plain, D.isPure, optAll, D.dull, callVF, splice, D.cells, D.one, sets, resT, D.flat, D.flat0, D.simple, Nat.reduceBNe, Nat.reduceLT, reduceIte, Nat.reduceEqDiff, Nat.reduceAdd, Nat.reduceMul, Nat.reduceSub, Nat.reduceLeDiff, Int.reduceToNat, Int.reduceLT, Int.reduceLE, Int.reduceEq, Int.reduceNeg, Int.reduceSub, Int.reduceAdd, Int.reduceMul, Int.reduceTMod]
      refine ⟨by omega, fun h4 => ?_, fun h4 => ?_⟩
      case refine_2 =>
        rw [if_pos (.inl (by omega))] at hstep
        rw [hstep] at hmk
        refine ⟨by omega, ⟨k + 1, out, by omega, hout, hmk, rfl, rfl⟩, by omega⟩
      refine callF_of (Tryz.c51 _ out (by omega) fun y _ => Tryz.c52 y _) ?_
      simp only [t6, evA, evB, evC, forall_const, implies_true, initE, stepF, D.clean, mvF, moF, tkF, shF, ariF, ciF, catF, scF, ebF, eqF, eqOk, eqPr, enF, notF, ngF, cvF, csF, csbF, lenF, lenSF, ixF, iaF, PX.slot, iaAF, faF, ldF, D.mem, stF, bxF, mkSF, boundF, fldF, mmF2, D.plain, D.isPure, optAll, D.dull, callVF, splice, D.cells, D.one, sets, resT, D.flat, D.flat0, D.simple, Nat.reduceBNe, Nat.reduceLT, reduceIte, Nat.reduceEqDiff, Nat.reduceAdd, Nat.reduceMul, Nat.reduceSub, Nat.reduceLeDiff, Int.reduceToNat, Int.reduceLT, Int.reduceLE, Int.reduceEq, Int.reduceNeg, Int.reduceSub, Int.reduceAdd, Int.reduceMul, Int.reduceTMod]
      refine ⟨fun hin => ?_, fun hin => ?_⟩
      · rw [if_pos (.inr hin)] at hstep
        rw [hstep] at hmk
        refine ⟨by omega, ⟨k + 1, out, by omega, hout, hmk, rfl, rfl⟩, by omega⟩
      · have hcond : ¬ (out.length = 4 ∨ 0 ≤ idx (fun y : Lay => y.u == _) out) := fun h => h.elim (fun h => h4 (by omega)) hin
        rw [if_neg hcond] at hstep
        rw [hstep] at hmk
        refine ⟨by omega, by omega, by simp only [(tm _ hp.a0).1, (tm _ hp.a1).1, (tm _ hp.a2).1, (tm _ hp.a3).1]; exact r4 _, ?_⟩
        simp only [(tm _ hp.a0).1, (tm _ hp.a1).1, (tm _ hp.a2).1, (tm _ hp.a3).1]
        refine callF_of (Tryz.c16 _ (l4 _)) ?_
        simp only [(tm _ hp.b0).2, (tm _ hp.b1).2, (tm _ hp.b2).2, (tm _ hp.b3).2, evA, evB, evC, forall_const, implies_true, initE, stepF, D.clean, mvF, moF, tkF, shF, ariF, ciF, catF, scF, ebF, eqF, eqOk, eqPr, enF, notF, ngF, cvF, csF, csbF, lenF, lenSF, ixF, iaF, PX.slot, iaAF, faF, ldF, D.mem, stF, bxF, mkSF, boundF, fldF, mmF2, D.plain, D.isPure, optAll, D.dull, callVF, splice, D.cells, D.one, sets, resT, D.flat, D.flat0, D.simple, Nat.reduceBNe, Nat.reduceLT, reduceIte, Nat.reduceEqDiff, Nat.reduceAdd, Nat.reduceMul, Nat.reduceSub, Nat.reduceLeDiff, Int.reduceToNat, Int.reduceLT, Int.reduceLE, Int.reduceEq, Int.reduceNeg, Int.reduceSub, Int.reduceAdd, Int.reduceMul]
        have hk1 : k + 1 ≤ p.us.length + 1 := by omega
        have hout1 : (out ++ [p.lay (x % 6).toNat]).length ≤ 4 := by
          rw [List.length_append, List.length_singleton]; omega
        rw [hc] at hout1
        have fit : (out.length + 1) * 48 ≤ 140737488355328 ∧ out.length ≤ 9223372036854775806 ∧ (-9223372036854775808 ≤ (k : Int) + 1 ∧ (k : Int) + 1 ≤ 9223372036854775807) ∧ p.us.length + 1 - ((k : Int) + 1).toNat < p.us.length + 1 - k := by omega
        refine ⟨by decide, fun hb7 => ⟨by decide, r8 _, ?_⟩, fun hb7 => ?_⟩
        · refine callF_of (Tryz.c16 _ (l8 _)) ?_
          (refine ev0 ?_; try with_reducible exact trivial)
          refine callF_of (Tryz.c25 _ _ (l84 _) (by clear fit hout1 hk1 hcond; omega)) ?_
          (refine ev0 ?_; try with_reducible exact trivial)
          exact ⟨fit.1, fit.2.1, fit.2.2.1, ⟨k + 1, _, hk1, hout1, hmk, congrArg (Prod.mk 3) (snocL out (p.lay _) ((layOf8 _ _ _ hb7).trans rfl)), rfl⟩, fit.2.2.2⟩
        · exact ⟨fit.1, fit.2.1, fit.2.2.1, ⟨k + 1, _, hk1, hout1, hmk, congrArg (Prod.mk 3) (snocL out (p.lay _) ((layOf7 _ _ _ hb7).trans rfl)), rfl⟩, fit.2.2.2⟩
  · have hke : k = p.us.length + 1 := by omega
    subst hke
    rw [List.drop_of_length_le (by simp)] at hmk
    rw [hmk]; rfl
end Go.Proofs

/-
  SEAT 22: ColumnTexts. Own work.
-/
namespace Go.Proofs
open Go Go.Pi Go.RowKit

theorem ldC_strs {l : List (List UInt8)} {k t : Nat} {N : EP} {E : Env} : ldC false 1 (List.take 1 (List.drop k (strs l))) t N E = (∃ x, l[k]? = some x ∧ N (st1 E t (.str x))) := by
  unfold ldC
  have e0 : List.drop k (strs l) = strs (l.drop k) := by have := rows_drop sD_len k l; rwa [Nat.mul_one] at this
  rw [e0]
  cases h : l[k]? with
  | none =>
    have hk : l.length ≤ k := by simpa using h
    rw [List.drop_eq_nil_of_le hk]; simp [ofCells, rows]
  | some x => rw [drop_cons h]; simp [ofCells, rows, sD, D.one]

theorem Tryz.c15 (l : List (List UInt8)) (hl : l.length ≤ 1000000) : Con Tryz.prog Tryz.L 15 [.sl l.length (strs l), .sl l.length (strs l)] (.bool true) := by
  refine rule15 Tryz.hL rfl rfl rfl ?_
  (simp only [pc15, rs15]; refine ev0 ?_; try with_reducible exact trivial)
  refine loopF_of (fun E => ∃ k : Nat, k ≤ l.length ∧ E = [(0, .sl l.length (strs l)), (1, .sl l.length (strs l)), (12, .int .i64 l.length), (13, .int .i64 k)])
    (fun E => match lk E 13 with | .int _ i => l.length - i.toNat | _ => 0) ⟨0, Nat.zero_le _, rfl⟩ ?_
  rintro _ ⟨k, hk, rfl⟩
  simp only [evA, evB, evC, forall_const, implies_true, initE, stepF, D.clean, mvF, moF, tkF, shF, ariF, ciF, catF, scF, ebF, eqF, eqOk, eqPr, enF, notF, ngF, cvF, csF, csbF, lenF, lenSF, ixF, iaF, PX.slot, iaAF, faF, ldF, D.mem, stF, bxF, mkSF, boundF, fldF, mmF2, D.plain, D.isPure, optAll, D.dull, callVF, splice, D.cells, D.one, sets, resT, D.flat, D.flat0, D.simple, Nat.reduceBNe, Nat.reduceLT, reduceIte, Nat.reduceEqDiff, Nat.reduceAdd, Nat.reduceMul, Nat.reduceSub, Nat.reduceLeDiff, Int.reduceToNat, Int.reduceLT, Int.reduceLE, Int.reduceEq, Int.reduceNeg, Int.reduceSub, Int.reduceAdd, Int.reduceMul, ldC_strs]
  intro h1
  have hx : l[k]? = some (l[k]'(by omega)) := List.getElem?_eq_getElem (by omega)
  generalize l[k]'(by omega) = x at hx
  refine ⟨⟨by omega, by rw [strs_length]; omega⟩, x, hx, ⟨by omega, by rw [strs_length]; omega⟩, x, hx, ?_⟩
  (refine ev0 ?_; try with_reducible exact trivial)
  exact ⟨by omega, ⟨k + 1, by omega, rfl⟩, by omega⟩

theorem idxA_ge {α : Type} {p : α → Bool} : ∀ {l : List α} {k : Nat}, ¬ 0 ≤ idxA p l k → ∀ x ∈ l, p x = false
  | [], _, _ => fun x hx => by cases hx
  | y :: l, k, h => by
    simp only [idxA] at h
    cases hy : p y with
    | true => rw [hy] at h; exact absurd (show (0 : Int) ≤ (k : Int) by omega) h
    | false =>
      rw [hy] at h
      intro x hx
      rcases List.mem_cons.1 hx with rfl | hx
      · exact hy
      · exact idxA_ge h x hx

/-- what is known of the columns of plans -/
structure ColOk (l : List Lay) : Prop where
  len : l.length ≤ 4
  lay : ∀ x ∈ l, ∃ k a b, k < 6 ∧ a < 4 ∧ b < 8 ∧ x = layOf k a b
  nd : (l.map Lay.u).Nodup

theorem mkStep_ok (p : Pl) {out : List Lay} (x : Int) (h : ColOk out) : ColOk (mkStep p out x) := by
  unfold mkStep
  split
  · exact h
  · rename_i hn
    simp only [not_or] at hn
    refine ⟨?_, ?_, ?_⟩
    · rw [List.length_append, List.length_singleton]; have := h.len; omega
    · intro y hy
      rcases List.mem_append.1 hy with hy | hy
      · exact h.lay y hy
      · rw [List.mem_singleton.1 hy]
        exact ⟨_, _, _, by omega, l84 _, l8 _, rfl⟩
    · rw [List.map_append, List.nodup_append]
      refine ⟨h.nd, by simp, ?_⟩
      intro a ha b hb e
      subst e
      simp only [List.map_cons, List.map_nil, List.mem_singleton] at hb
      obtain ⟨y, hy, rfl⟩ := List.mem_map.1 ha
      have := idxA_ge hn.2 y hy
      rw [beq_eq_false_iff_ne] at this
      exact this hb

theorem foldl_ok (p : Pl) : ∀ (l : List Int) (out : List Lay), ColOk out → ColOk (l.foldl (mkStep p) out)
  | [], _, h => h
  | x :: l, _, h => foldl_ok p l _ (mkStep_ok p x h)

theorem Pl.make_ok (p : Pl) : ColOk p.make := foldl_ok p _ _ ⟨Nat.zero_le _, fun x h => (by cases h), List.nodup_nil⟩
theorem Pl.make_pos (p : Pl) : 0 < p.make.length := by
  unfold Pl.make
  rw [List.foldl_append]
  simp only [List.foldl_cons, List.foldl_nil]
  generalize List.foldl (mkStep p) [] p.us = out
  unfold mkStep
  split
  · rename_i h
    rcases h with h | h
    · omega
    · cases out with
      | nil => simp [idx, idxA] at h
      | cons a l => simp
  · simp

theorem ColOk.small {l : List Lay} (h : ColOk l) : ∀ x ∈ l, x.small := fun x hx => by
  obtain ⟨k, a, b, _, _, _, rfl⟩ := h.lay x hx; exact layOf_small k a b
theorem ColOk.layOk {l : List Lay} (h : ColOk l) : ∀ x ∈ l, LayOk x := fun x hx => by
  obtain ⟨k, a, b, h1, h2, h3, rfl⟩ := h.lay x hx; exact layOf_ok k a b h1 h2 h3
theorem ColOk.check {l : List Lay} (h : ColOk l) (h0 : 0 < l.length) : Con Tryz.prog Tryz.L 45 [.sl l.length (lays l)] (.int .i64 0) :=
  Tryz.c45 l h0 (by have := h.len; omega) h.nd h.layOk

theorem Tryz.c3 (p : Pl) (hp : p.ok) : Con Tryz.prog Tryz.L 3 [p.d] (.bool true) := by
  refine rule3 Tryz.hL (fun q hq => by simp [PC.backs, pc3] at hq; subst hq; exact back53) rfl rfl rfl ?_
  ((try simp only [pc3, rs3, Pl.d]); refine ev0 ?_; try with_reducible exact trivial)
  refine callF_of Tryz.c11 ?_
  (refine ev0 ?_; try with_reducible exact trivial)
  refine callF_of (Tryz.c12 p hp) ?_
  (refine ev0 ?_; try with_reducible exact trivial)
  have hok := p.make_ok
  have hpos := p.make_pos
  have hlen := hok.len
  have hsm := hok.small
  refine callF_of (Tryz.c13 p.make hsm (by omega) (hok.check hpos)) ?_
  (refine ev0 ?_; try with_reducible exact trivial)
  refine callF_of (Tryz.c14 _ _) ?_
  (refine ev0 ?_; try with_reducible exact trivial)
  generalize p.make = l at hok hpos hlen hsm
  refine rfnF_of (fun k E => ∃ hk : k ≤ l.length, E = [(4, .sl l.length (strs (l.reverse.map Lay.line))), (5, .int .i64 0), (6, .gbox 1000006), (20, .clo 53 [.pt [.sl l.length (lays l)]]), (1000006, .own true 9 k (strs ((l.reverse.map Lay.line).take k)))])
    (by rw [rows_length Lay.d_len]) ⟨Nat.zero_le _, rfl⟩ (fun k E1 hE => by obtain ⟨_, rfl⟩ := hE; rfl) ?_ ?_
  · rintro _ ⟨_, rfl⟩
    (refine ev0 ?_; try with_reducible exact trivial)
    rw [List.take_of_length_le (by simp)]
    have h15 := Tryz.c15 (l.reverse.map Lay.line) (by simp; omega)
    rw [show (l.reverse.map Lay.line).length = l.length by simp] at h15
    refine callF_of h15 ?_
    (refine ev0 ?_; try with_reducible exact trivial)
  · rintro k _ hkm ⟨hk, rfl⟩
    have hx : l[l.length - 1 - k]? = some (l[l.length - 1 - k]'(by omega)) := List.getElem?_eq_getElem (by omega)
    have hr : (l.reverse.map Lay.line).take (k + 1) = (l.reverse.map Lay.line).take k ++ [(l[l.length - 1 - k]'(by omega)).line] := by
      rw [List.take_succ_eq_append_getElem (by simpa using hkm)]
      simp [List.getElem_reverse]
    have hsm := hsm _ (List.mem_of_getElem? hx)
    generalize l[l.length - 1 - k]'(by omega) = x at hx hr hsm
    refine ⟨_, ofCells_rows Lay.d_len hx, rfl, ?_⟩
    obtain ⟨h1, h2, h3⟩ := hsm
    ((try simp only [Lay.d]); refine ev0 ?_; try with_reducible exact trivial)
    refine ⟨fun hb => ?_, fun hb => ?_⟩
    all_goals
      simp only [List.length_append, List.length_cons, List.length_nil]
      refine ⟨by omega, by omega, by omega, by omega, by omega, by omega, by omega, ?_⟩
      rw [hr, strs_snoc]
      simp [Lay.line, hb]
end Go.Proofs

/-
  ARITHMETIC: pieces at the end left out (integer.trim, klipperef01.cut). Own work.
-/
namespace Go.Proofs
open Go Go.Pi Go.RowKit Go.Ar

theorem cut_zero_n {l : List Int} {k : IntKind} {n : Nat} (h : n ≤ l.length) : cut 1 0 n (ints k l) = ints k (l.take n) := by
  rw [cut_ints, List.drop_zero]

theorem cutz_take {l : List Int} {n : Nat} (h : n < l.length) (h0 : l.getD n 0 = 0) : cutz (l.take (n + 1)) = cutz (l.take n) := by
  rw [List.take_succ_eq_append_getElem h]
  have : l[n] = 0 := by rw [List.getD_eq_getElem?_getD, List.getElem?_eq_getElem h] at h0; exact h0
  rw [this, cutz_snoc0]
theorem cutz_take1 {l : List Int} {n : Nat} (h : n < l.length) (h0 : ¬l.getD n 0 = 0) : cutz (l.take (n + 1)) = l.take (n + 1) := by
  rw [List.take_succ_eq_append_getElem h]
  have : ¬l[n] = 0 := by rw [List.getD_eq_getElem?_getD, List.getElem?_eq_getElem h] at h0; exact h0
  rw [cutz_snoc this]

theorem Tryz.trim (l : List Int) (hl : l.length ≤ 1000000) : Con Tryz.prog Tryz.L 142 [.sl l.length (ints .u64 l)] (.sl (cutz l).length (ints .u64 (cutz l))) := by
  refine rule142 Tryz.hL rfl rfl rfl ?_
  (simp only [pc142, rs142]; refine ev ?_; try with_reducible exact trivial)
  refine loopF_of (fun E => ∃ k : Nat, k ≤ l.length ∧ cutz l = cutz (l.take k) ∧ E = [(0, .sl k (ints .u64 (l.take k)))])
    (fun E => match lk E 0 with | .sl k _ => k | _ => 0) ⟨l.length, Nat.le_refl _, by rw [List.take_length], by rw [List.take_length]⟩ ?_
  rintro _ ⟨k, hk, hc, rfl⟩
  (refine ev ?_; try with_reducible exact trivial)
  refine ⟨fun h1 => ?_, fun h1 => ?_⟩
  · obtain ⟨n, rfl⟩ : ∃ n, k = n + 1 := ⟨k - 1, by omega⟩
    have hlen : (l.take (n + 1)).length = n + 1 := by rw [List.length_take]; omega
    have hd : (l.take (n + 1)).getD n 0 = l.getD n 0 := by
      rw [List.getD_eq_getElem?_getD, List.getD_eq_getElem?_getD, List.getElem?_take, if_pos (by omega)]
    rw [show (((n + 1 : Nat) : Int) - 1).toNat = n by omega, hlen, hd]
    refine ⟨by omega, by omega, by omega, fun h2 => ?_, fun h2 => ?_⟩
    · exact ⟨by omega, by omega, by omega, by omega, rfl, ⟨n, by omega, by rw [hc, cutz_take (by omega) h2], by rw [List.take_take, Nat.min_eq_left (by omega)]⟩, by omega⟩
    · rw [hc, cutz_take1 (by omega) h2]
      exact ⟨hlen.symm, rfl⟩
  · obtain rfl : k = 0 := by omega
    rw [hc]; exact ⟨rfl, rfl⟩

end Go.Proofs

/-
  ARITHMETIC: integer.plus. Own work.
-/
namespace Go.Proofs
open Go Go.Pi Go.RowKit Go.Ar

theorem vl_take {B : Int} {l : List Int} {k : Nat} (h : k < l.length) : vl B (l.take (k + 1)) = vl B (l.take k) + B ^ k * l.getD k 0 := by
  rw [List.take_succ_eq_append_getElem h, vl_append, List.length_take, Nat.min_eq_left (by omega)]
  have : l.getD k 0 = l[k] := by rw [List.getD_eq_getElem?_getD, List.getElem?_eq_getElem h]; rfl
  rw [this]; simp [vl]
theorem vl_take_ge {B : Int} {l : List Int} {k : Nat} (h : l.length ≤ k) : vl B (l.take k) = vl B l := by rw [List.take_of_length_le h]
theorem isD_getD {B : Int} (hB : 0 < B) {l : List Int} (h : isD B l) (k : Nat) : 0 ≤ l.getD k 0 ∧ l.getD k 0 < B := by
  rw [List.getD_eq_getElem?_getD]
  cases hk : l[k]? with
  | none => simp; exact hB
  | some x => simp; exact h x (List.mem_of_getElem? hk)
theorem isD_snoc {B : Int} {l : List Int} {x : Int} (h : isD B l) (hx : 0 ≤ x ∧ x < B) : isD B (l ++ [x]) := by
  intro y hy
  rcases List.mem_append.1 hy with hy | hy
  · exact h y hy
  · rw [List.mem_singleton.1 hy]; exact hx

abbrev big : Int := 1000000000
/-- the pieces of a number, to the base of the program's integers -/
abbrev pcs (n : Nat) : List Int := dgs 1000000000 n

theorem add_step {c x y : Int} (hc : 0 ≤ c) (hc1 : c ≤ 1) (hx : 0 ≤ x ∧ x < big) (hy : 0 ≤ y ∧ y < big) : 0 ≤ c + x + y ∧ (0 ≤ c + x + y ∧ c + x + y ≤ 18446744073709551615) ∧ 0 ≤ (c + x + y) % big ∧ (c + x + y) % big < big ∧ 0 ≤ (c + x + y) / big ∧ (c + x + y) / big ≤ 1 := by
  have h1 := hx.2
  have h2 := hy.2
  simp only [big] at *
  omega
theorem plus_step {out : List Int} {k : Nat} {c x y VA VB : Int} (ho : out.length = k) (hv : vl big out + big ^ k * c = VA + VB) :
    vl big (out ++ [(c + x + y) % big]) + big ^ (k + 1) * ((c + x + y) / big) = VA + big ^ k * x + (VB + big ^ k * y) := by
  rw [vl_append, ho, Int.pow_succ]
  have e : (c + x + y) % big + big * ((c + x + y) / big) = c + x + y := Int.emod_add_mul_ediv _ _
  have e2 : big ^ k * (c + x + y) = big ^ k * ((c + x + y) % big) + big ^ k * big * ((c + x + y) / big) := by
    rw [Int.mul_assoc, ← Int.mul_add, e]
  rw [Int.mul_add, Int.mul_add] at e2
  simp only [vl, Int.mul_zero, Int.add_zero]
  omega

theorem Tryz.plus (a b : List Int) (ha : a.length ≤ 100000) (hb : b.length ≤ 100000) (da : isD big a) (db : isD big b) :
    Con Tryz.prog Tryz.L 120 [.sl a.length (ints .u64 a), .sl b.length (ints .u64 b)] (.sl (pcs (vl big a + vl big b).toNat).length (ints .u64 (pcs (vl big a + vl big b).toNat))) := by
  refine rule120 Tryz.hL rfl rfl rfl ?_
  (simp only [pc120, rs120]; refine ev ?_; try with_reducible exact trivial)
  refine ⟨fun h0 => ⟨by omega, by omega, ?_⟩, fun h0 => ⟨by omega, by omega, ?_⟩⟩
  · refine loopF_of (fun E => ∃ (k : Nat) (out : List Int) (c : Int), k ≤ b.length ∧ out.length = k ∧ isD big out ∧ 0 ≤ c ∧ c ≤ 1 ∧ vl big out + big ^ k * c = vl big (b.take k) + vl big (a.take k) ∧
        E = [(1, .sl a.length (ints .u64 a)), (5, .own true 159 k (ints .u64 out)), (6, .int .u64 c), (20, .sl b.length (ints .u64 b)), (21, .int .i64 b.length), (22, .int .i64 k)])
      (fun E => match lk E 22 with | .int _ i => b.length - i.toNat | _ => 0) ⟨0, [], 0, Nat.zero_le _, rfl, fun x h => (by cases h), by omega, by omega, rfl, rfl⟩ ?_
    rintro _ ⟨k, out, c, hk, ho, hd, hc0, hc1, hv, rfl⟩
    (refine ev ?_; try with_reducible exact trivial)
    refine ⟨fun h1 => ?_, fun h1 => ?_⟩
    · have hx := isD_getD (by decide) db k
      have hxa := vl_take (B := big) (l := b) (k := k) (by omega)
      generalize b.getD k 0 = x at hx hxa ⊢
      refine ⟨⟨by omega, by omega, by omega⟩, by omega, by (have := hx.2; simp only [big] at this; omega), fun h2 => ?_, fun h2 => ?_⟩
      · have hy := isD_getD (by decide) da k
        have hya := vl_take (B := big) (l := a) (k := k) (by omega)
        generalize a.getD k 0 = y at hy hya ⊢
        obtain ⟨s0, s01, s1, s2, s3, s4⟩ := add_step (c := c) (x := x) (y := y) hc0 hc1 hx hy
        rw [Int.tdiv_eq_ediv_of_nonneg s0, Int.tmod_eq_emod_of_nonneg s0]
        refine ⟨⟨by omega, by omega, by omega⟩, by omega, s01, by omega, by omega, by omega, by omega, ⟨k + 1, out ++ [(c + x + y) % big], (c + x + y) / big, by omega, by rw [List.length_append, ho]; rfl, isD_snoc hd ⟨s1, s2⟩, s3, s4, ?_, rfl, rfl, rfl⟩, by omega⟩
        rw [hxa, hya]; exact plus_step ho hv
      · obtain ⟨s0, s01, s1, s2, s3, s4⟩ := add_step (c := c) (x := x) (y := 0) hc0 hc1 hx ⟨by omega, by decide⟩
        have e0 : c + x + 0 = c + x := Int.add_zero _
        rw [e0] at s0 s01 s1 s2 s3 s4
        rw [Int.tdiv_eq_ediv_of_nonneg s0, Int.tmod_eq_emod_of_nonneg s0]
        refine ⟨by omega, by omega, by omega, by omega, ⟨k + 1, out ++ [(c + x) % big], (c + x) / big, by omega, by rw [List.length_append, ho]; rfl, isD_snoc hd ⟨s1, s2⟩, s3, s4, ?_, rfl, rfl, rfl⟩, by omega⟩
        have := plus_step (x := x) (y := 0) ho hv
        rw [e0, Int.mul_zero, Int.add_zero] at this
        rw [hxa, vl_take_ge (show a.length ≤ k + 1 by omega), this, vl_take_ge (show a.length ≤ k by omega)]
    · obtain rfl : k = b.length := by omega
      rw [List.take_length, vl_take_ge (by omega)] at hv
      have hd2 : isD big (out ++ [c]) := isD_snoc hd ⟨hc0, by simp only [big]; omega⟩
      have e1 : cutz (out ++ [c]) = pcs (vl big a + vl big b).toNat := by
        rw [cutz_eq (B := 1000000000) (by decide) hd2, vl_append, ho]
        congr 2
        simp only [vl, Int.mul_zero, Int.add_zero]
        show vl big out + big ^ b.length * c = _
        omega
      have ht := Tryz.trim (out ++ [c]) (by rw [List.length_append, ho]; simp; omega)
      rw [e1, List.length_append, ho] at ht
      refine ⟨by omega, by omega, ?_⟩
      refine callF_of ht ?_
      (refine ev ?_; try with_reducible exact trivial)
  · refine loopF_of (fun E => ∃ (k : Nat) (out : List Int) (c : Int), k ≤ a.length ∧ out.length = k ∧ isD big out ∧ 0 ≤ c ∧ c ≤ 1 ∧ vl big out + big ^ k * c = vl big (a.take k) + vl big (b.take k) ∧
        E = [(1, .sl b.length (ints .u64 b)), (5, .own true 159 k (ints .u64 out)), (6, .int .u64 c), (20, .sl a.length (ints .u64 a)), (21, .int .i64 a.length), (22, .int .i64 k)])
      (fun E => match lk E 22 with | .int _ i => a.length - i.toNat | _ => 0) ⟨0, [], 0, Nat.zero_le _, rfl, fun x h => (by cases h), by omega, by omega, rfl, rfl⟩ ?_
    rintro _ ⟨k, out, c, hk, ho, hd, hc0, hc1, hv, rfl⟩
    (refine ev ?_; try with_reducible exact trivial)
    refine ⟨fun h1 => ?_, fun h1 => ?_⟩
    · have hx := isD_getD (by decide) da k
      have hxa := vl_take (B := big) (l := a) (k := k) (by omega)
      generalize a.getD k 0 = x at hx hxa ⊢
      refine ⟨⟨by omega, by omega, by omega⟩, by omega, by (have := hx.2; simp only [big] at this; omega), fun h2 => ?_, fun h2 => ?_⟩
      · have hy := isD_getD (by decide) db k
        have hya := vl_take (B := big) (l := b) (k := k) (by omega)
        generalize b.getD k 0 = y at hy hya ⊢
        obtain ⟨s0, s01, s1, s2, s3, s4⟩ := add_step (c := c) (x := x) (y := y) hc0 hc1 hx hy
        rw [Int.tdiv_eq_ediv_of_nonneg s0, Int.tmod_eq_emod_of_nonneg s0]
        refine ⟨⟨by omega, by omega, by omega⟩, by omega, s01, by omega, by omega, by omega, by omega, ⟨k + 1, out ++ [(c + x + y) % big], (c + x + y) / big, by omega, by rw [List.length_append, ho]; rfl, isD_snoc hd ⟨s1, s2⟩, s3, s4, ?_, rfl, rfl, rfl⟩, by omega⟩
        rw [hxa, hya]; exact plus_step ho hv
      · obtain ⟨s0, s01, s1, s2, s3, s4⟩ := add_step (c := c) (x := x) (y := 0) hc0 hc1 hx ⟨by omega, by decide⟩
        have e0 : c + x + 0 = c + x := Int.add_zero _
        rw [e0] at s0 s01 s1 s2 s3 s4
        rw [Int.tdiv_eq_ediv_of_nonneg s0, Int.tmod_eq_emod_of_nonneg s0]
        refine ⟨by omega, by omega, by omega, by omega, ⟨k + 1, out ++ [(c + x) % big], (c + x) / big, by omega, by rw [List.length_append, ho]; rfl, isD_snoc hd ⟨s1, s2⟩, s3, s4, ?_, rfl, rfl, rfl⟩, by omega⟩
        have := plus_step (x := x) (y := 0) ho hv
        rw [e0, Int.mul_zero, Int.add_zero] at this
        rw [hxa, vl_take_ge (show b.length ≤ k + 1 by omega), this, vl_take_ge (show b.length ≤ k by omega)]
    · obtain rfl : k = a.length := by omega
      rw [List.take_length, vl_take_ge (by omega)] at hv
      have hd2 : isD big (out ++ [c]) := isD_snoc hd ⟨hc0, by simp only [big]; omega⟩
      have e1 : cutz (out ++ [c]) = pcs (vl big a + vl big b).toNat := by
        rw [cutz_eq (B := 1000000000) (by decide) hd2, vl_append, ho]
        congr 2
        simp only [vl, Int.mul_zero, Int.add_zero]
        show vl big out + big ^ a.length * c = _
        omega
      have ht := Tryz.trim (out ++ [c]) (by rw [List.length_append, ho]; simp; omega)
      rw [e1, List.length_append, ho] at ht
      refine ⟨by omega, by omega, ?_⟩
      refine callF_of ht ?_
      (refine ev ?_; try with_reducible exact trivial)
end Go.Proofs

/-
  ARITHMETIC: integer.minus, integer.order. Own work.
-/
namespace Go.Proofs
open Go Go.Pi Go.RowKit Go.Ar

theorem minus_step {out : List Int} {k : Nat} {c x y d c' VA VB : Int} (ho : out.length = k) (hv : vl big out - big ^ k * c = VA - VB) (hd : d = x - (c + y) + big * c') :
    vl big (out ++ [d]) - big ^ (k + 1) * c' = VA + big ^ k * x - (VB + big ^ k * y) := by
  rw [vl_append, ho, Int.pow_succ, hd]
  simp only [vl, Int.mul_zero, Int.add_zero]
  have e2 : big ^ k * (x - (c + y) + big * c') = big ^ k * x - big ^ k * c - big ^ k * y + big ^ k * big * c' := by
    rw [Int.mul_add, Int.mul_sub, Int.mul_add, ← Int.mul_assoc]; omega
  rw [e2]; omega

set_option maxHeartbeats 1000000 in
theorem Tryz.minus (a b : List Int) (ha : a.length ≤ 100000) (hb : b.length ≤ a.length) (da : isD big a) (db : isD big b) (hab : vl big b ≤ vl big a) :
    Con Tryz.prog Tryz.L 123 [.sl a.length (ints .u64 a), .sl b.length (ints .u64 b)] (.sl (pcs (vl big a - vl big b).toNat).length (ints .u64 (pcs (vl big a - vl big b).toNat))) := by
  refine rule123 Tryz.hL rfl rfl rfl ?_
  (simp only [pc123, rs123]; refine ev ?_; try with_reducible exact trivial)
  refine ⟨by omega, ?_⟩
  refine loopF_of (fun E => ∃ (k : Nat) (out : List Int) (c : Int), k ≤ a.length ∧ out.length = k ∧ isD big out ∧ 0 ≤ c ∧ c ≤ 1 ∧ vl big out - big ^ k * c = vl big (a.take k) - vl big (b.take k) ∧
      E = [(1, .sl b.length (ints .u64 b)), (5, .own true 159 k (ints .u64 out)), (6, .int .u64 c), (13, .sl a.length (ints .u64 a)), (14, .int .i64 a.length), (15, .int .i64 k)])
    (fun E => match lk E 15 with | .int _ i => a.length - i.toNat | _ => 0) ⟨0, [], 0, Nat.zero_le _, rfl, fun x h => (by cases h), by omega, by omega, rfl, rfl⟩ ?_
  rintro _ ⟨k, out, c, hk, ho, hd, hc0, hc1, hv, rfl⟩
  (refine ev ?_; try with_reducible exact trivial)
  refine ⟨fun h1 => ?_, fun h1 => ?_⟩
  · have hx := isD_getD (by decide) da k
    have hxa := vl_take (B := big) (l := a) (k := k) (by omega)
    generalize a.getD k 0 = x at hx hxa ⊢
    have hx2 := hx.2
    simp only [big] at hx2
    have fin : ∀ (d c' y : Int), d = x - (c + y) + big * c' → 0 ≤ d → d < big → 0 ≤ c' → c' ≤ 1 → vl big (b.take (k + 1)) = vl big (b.take k) + big ^ k * y →
        (k + 1) * 8 ≤ 140737488355328 ∧ k ≤ 9223372036854775806 ∧ (-9223372036854775808 ≤ (k : Int) + 1 ∧ (k : Int) + 1 ≤ 9223372036854775807) ∧
        (∃ (k_1 : Nat) (out_1 : List Int) (c_1 : Int), k_1 ≤ a.length ∧ out_1.length = k_1 ∧ isD big out_1 ∧ 0 ≤ c_1 ∧ c_1 ≤ 1 ∧ vl big out_1 - big ^ k_1 * c_1 = vl big (a.take k_1) - vl big (b.take k_1) ∧
          (5, D.own true 159 (k + 1) (ints .u64 (out ++ [d]))) = (5, D.own true 159 k_1 (ints .u64 out_1)) ∧ (6, D.int IntKind.u64 c') = (6, D.int IntKind.u64 c_1) ∧ (15, D.int IntKind.i64 ((k : Int) + 1)) = (15, D.int IntKind.i64 k_1)) ∧
        a.length - ((k : Int) + 1).toNat < a.length - k := fun d c' y e1 h2 h3 h4 h5 e2 =>
      ⟨by omega, by omega, by omega, ⟨k + 1, out ++ [d], c', by omega, by rw [List.length_append, ho]; rfl, isD_snoc hd ⟨h2, h3⟩, h4, h5, by rw [hxa, e2]; exact minus_step ho hv e1, rfl, rfl, rfl⟩, by omega⟩
    refine ⟨⟨by omega, by omega, by omega⟩, by omega, fun h2 => ?_, fun h2 => ?_⟩
    · have hy := isD_getD (by decide) db k
      have hya := vl_take (B := big) (l := b) (k := k) (by omega)
      generalize b.getD k 0 = y at hy hya ⊢
      have hy2 := hy.2
      simp only [big] at hy2
      exact ⟨by omega, by omega, by omega, fun h3 => ⟨by omega, by omega, fin _ 1 y (by simp only [big]; omega) (by omega) (by simp only [big]; omega) (by omega) (by omega) hya⟩,
        fun h3 => ⟨by omega, fin _ 0 y (by simp only [big]; omega) (by omega) (by simp only [big]; omega) (by omega) (by omega) hya⟩⟩
    · have hya : vl big (b.take (k + 1)) = vl big (b.take k) + big ^ k * 0 := by rw [vl_take_ge (show b.length ≤ k + 1 by omega), vl_take_ge (show b.length ≤ k by omega)]; simp
      exact ⟨fun h3 => ⟨by omega, by omega, fin _ 1 0 (by simp only [big]; omega) (by omega) (by simp only [big]; omega) (by omega) (by omega) hya⟩,
        fun h3 => ⟨by omega, fin _ 0 0 (by simp only [big]; omega) (by omega) (by simp only [big]; omega) (by omega) (by omega) hya⟩⟩
  · obtain rfl : k = a.length := by omega
    rw [List.take_length, vl_take_ge (by omega)] at hv
    have hlt := vl_lt (by decide) hd
    rw [ho] at hlt
    have hc : c = 0 := by
      have : c = 0 ∨ c = 1 := by omega
      rcases this with h | h
      · exact h
      · subst h; rw [Int.mul_one] at hv; omega
    subst hc
    have e1 : cutz out = pcs (vl big a - vl big b).toNat := by
      rw [cutz_eq (B := 1000000000) (by decide) hd]
      congr 2
      show vl big out = _
      rw [Int.mul_zero] at hv; omega
    have ht := Tryz.trim out (by omega)
    rw [e1, ho] at ht
    refine callF_of ht ?_
    (refine ev ?_; try with_reducible exact trivial)

/-! ### order -/
theorem vl_split {B : Int} {l : List Int} {i : Nat} (h : i < l.length) : vl B l = vl B (l.take i) + B ^ i * (l.getD i 0 + B * vl B (l.drop (i + 1))) := by
  have e : l = l.take i ++ (l[i] :: l.drop (i + 1)) := by rw [← List.drop_eq_getElem_cons h, List.take_append_drop]
  have hg : l.getD i 0 = l[i] := by rw [List.getD_eq_getElem?_getD, List.getElem?_eq_getElem h]; rfl
  rw [hg]
  have := vl_append (B := B) (l.take i) (l[i] :: l.drop (i + 1))
  rw [← e, List.length_take, Nat.min_eq_left (by omega)] at this
  simpa only [vl] using this
theorem isD_take {B : Int} {l : List Int} (h : isD B l) (n : Nat) : isD B (l.take n) := fun x hx => h x (List.mem_of_mem_take hx)
/-- the first difference from the top decides -/
theorem vl_top {a b : List Int} {i : Nat} (ha : i < a.length) (hb : i < b.length) (da : isD big a) (db : isD big b) (hd : a.drop (i + 1) = b.drop (i + 1)) (hi : a.getD i 0 < b.getD i 0) : vl big a < vl big b := by
  rw [vl_split ha, vl_split hb, hd]
  have h1 := vl_lt (B := big) (by decide) (isD_take da i)
  have h2 := vl_nonneg (B := big) (by decide) (isD_take db i)
  rw [List.length_take, Nat.min_eq_left (by omega)] at h1
  have h3 : big ^ i * (a.getD i 0 + big * vl big (b.drop (i + 1)) + 1) ≤ big ^ i * (b.getD i 0 + big * vl big (b.drop (i + 1))) :=
    Int.mul_le_mul_of_nonneg_left (by omega) (Int.pow_nonneg (by decide))
  rw [Int.mul_add, Int.mul_one] at h3
  omega
theorem pcs_isD (n : Nat) : isD big (pcs n) := dgs_isD (B := 1000000000) (by decide) n
theorem pcs_vl (n : Nat) : vl big (pcs n) = n := dgs_vl (B := 1000000000) (by decide) n
theorem pcs_len_lt {m n : Nat} (h : (pcs m).length < (pcs n).length) : m < n := by
  rcases Nat.lt_or_ge m n with h1 | h1
  · exact h1
  · have h2 := vl_lt (B := big) (by decide) (pcs_isD m)
    rw [pcs_vl] at h2
    have h3 : ((m : Nat) : Int) < ((1000000000 ^ (pcs m).length : Nat) : Int) := by
      rw [Int.natCast_pow]
      exact h2
    exact absurd h (Nat.not_lt.2 (dgs_len (B := 1000000000) (by decide) (Nat.lt_of_le_of_lt h1 (Int.ofNat_lt.1 h3))))
def cmpN (m n : Nat) : Int := if m < n then -1 else if n < m then 1 else 0

theorem Tryz.order (m n : Nat) (hm : (pcs m).length ≤ 100000) (hn : (pcs n).length ≤ 100000) :
    Con Tryz.prog Tryz.L 122 [.sl (pcs m).length (ints .u64 (pcs m)), .sl (pcs n).length (ints .u64 (pcs n))] (.int .i64 (cmpN m n)) := by
  have da := pcs_isD m
  have db := pcs_isD n
  have va := pcs_vl m
  have vb := pcs_vl n
  have l1 := pcs_len_lt (m := m) (n := n)
  have l2 := pcs_len_lt (m := n) (n := m)
  have ei : pcs m = pcs n → m = n := dgs_inj (by decide)
  refine rule122 Tryz.hL rfl rfl rfl ?_
  (simp only [pc122, rs122]; refine ev ?_; try with_reducible exact trivial)
  generalize pcs m = a at *
  generalize pcs n = b at *
  have lt : m < n → cmpN m n = -1 := fun h => if_pos h
  have gt : n < m → cmpN m n = 1 := fun h => by unfold cmpN; rw [if_neg (by omega), if_pos h]
  have eq : m = n → cmpN m n = 0 := fun h => by unfold cmpN; rw [if_neg (by omega), if_neg (by omega)]
  refine ⟨fun h0 => ⟨fun h1 => (lt (l1 (by omega))).symm, fun h1 => (gt (l2 (by omega))).symm⟩, fun h0 => ⟨by omega, ?_⟩⟩
  have hl : a.length = b.length := by omega
  refine loopF_of (fun E => ∃ i : Nat, i ≤ a.length ∧ a.drop i = b.drop i ∧ E = [(0, .sl a.length (ints .u64 a)), (1, .sl b.length (ints .u64 b)), (5, .int .i64 ((i : Int) - 1))])
    (fun E => match lk E 5 with | .int _ i => (i + 1).toNat | _ => 0) ⟨a.length, Nat.le_refl _, by rw [List.drop_length, hl, List.drop_length], rfl⟩ ?_
  rintro _ ⟨i, hi, hdr, rfl⟩
  (refine ev ?_; try with_reducible exact trivial)
  refine ⟨fun h1 => ?_, fun h1 => ?_⟩
  · obtain ⟨j, rfl⟩ : ∃ j, i = j + 1 := ⟨i - 1, by omega⟩
    rw [show (((j + 1 : Nat) : Int) - 1).toNat = j by omega]
    refine ⟨by omega, by omega, by omega, by omega, fun h2 => ⟨by omega, by omega, by omega, by omega, fun h3 => ?_, fun h3 => ?_⟩, fun h2 => ⟨by omega, ⟨j, by omega, ?_, by rw [show ((j + 1 : Nat) : Int) - 1 - 1 = (j : Int) - 1 by omega]⟩, by omega⟩⟩
    · have := vl_top (by omega) (by omega) da db hdr h3
      exact (lt (by omega)).symm
    · have := vl_top (by omega) (by omega) db da hdr.symm (by omega)
      exact (gt (by omega)).symm
    · have h2 : a.getD j 0 = b.getD j 0 := Decidable.of_not_not h2
      rw [List.drop_eq_getElem_cons (show j < a.length by omega), List.drop_eq_getElem_cons (show j < b.length by omega), hdr]
      rw [List.getD_eq_getElem?_getD, List.getD_eq_getElem?_getD, List.getElem?_eq_getElem (show j < a.length by omega), List.getElem?_eq_getElem (show j < b.length by omega)] at h2
      simp only [Option.getD_some] at h2
      rw [h2]
  · obtain rfl : i = 0 := by omega
    exact (eq (ei (by simpa using hdr))).symm
end Go.Proofs

/-
  ARITHMETIC: integer.times. Own work.
-/
namespace Go.Proofs
open Go Go.Pi Go.RowKit Go.Ar

theorem vl_set {B : Int} {d : Int} : ∀ {l : List Int} {j : Nat}, j < l.length → vl B (l.set j d) = vl B l + B ^ j * (d - l.getD j 0)
  | [], j, h => by simp at h
  | x :: l, 0, _ => by simp [vl]; omega
  | x :: l, j + 1, h => by
    have ih := vl_set (B := B) (d := d) (l := l) (j := j) (by simpa using h)
    simp only [List.set_cons_succ, vl, ih, List.getD_cons_succ]
    rw [Int.mul_add, ← Int.mul_assoc, Int.pow_succ, Int.mul_comm B (B ^ j)]
    omega
theorem isD_set {B : Int} {l : List Int} {j : Nat} {d : Int} (h : isD B l) (hd : 0 ≤ d ∧ d < B) : isD B (l.set j d) := fun x hx => by
  rcases List.mem_or_eq_of_mem_set hx with h1 | h1
  · exact h x h1
  · rw [h1]; exact hd


/-- one step of a product -/
theorem mul_bound {c o x y : Int} (hc : 0 ≤ c ∧ c < big) (ho : 0 ≤ o ∧ o < big) (hx : 0 ≤ x ∧ x < big) (hy : 0 ≤ y ∧ y < big) : 0 ≤ x * y ∧ 0 ≤ c + (o + x * y) ∧ c + (o + x * y) < 1000000000000000000 ∧ o + x * y < 1000000000000000000 ∧ x * y < 1000000000000000000 := by
  have h1 : 0 ≤ x * y := Int.mul_nonneg hx.1 hy.1
  have h2 : x * y ≤ 999999999 * 999999999 := Int.mul_le_mul (by have := hx.2; simp only [big] at this; omega) (by have := hy.2; simp only [big] at this; omega) hy.1 (by decide)
  have h3 := hc.2
  have h4 := ho.2
  simp only [big] at h3 h4
  omega
theorem mul_step {out : List Int} {j : Nat} {c s V W : Int} (hj : j < out.length) (hv : vl big out + big ^ j * c = V) (hs : s = c + (out.getD j 0 + W)) :
    vl big (out.set j (s % big)) + big ^ (j + 1) * (s / big) = V + big ^ j * W := by
  rw [vl_set hj, Int.pow_succ]
  have e : s % big + big * (s / big) = s := Int.emod_add_mul_ediv _ _
  have e2 : big ^ j * s = big ^ j * (s % big) + big ^ j * big * (s / big) := by rw [Int.mul_assoc, ← Int.mul_add, e]
  have e3 : big ^ j * s = big ^ j * c + (big ^ j * out.getD j 0 + big ^ j * W) := by rw [hs, Int.mul_add, Int.mul_add]
  rw [Int.mul_sub]
  omega

theorem repl_ints (k : IntKind) : ∀ n : Nat, (List.replicate n [D.int k 0]).flatten = ints k (List.replicate n 0)
  | 0 => rfl
  | n + 1 => by simp only [List.replicate_succ, List.flatten_cons, repl_ints k n]; rfl
theorem isD_repl (n : Nat) : isD big (List.replicate n 0) := fun x hx => by rw [List.eq_of_mem_replicate hx]; exact ⟨by decide, by decide⟩
theorem vl_repl (B : Int) : ∀ n : Nat, vl B (List.replicate n 0) = 0
  | 0 => rfl
  | n + 1 => by simp only [List.replicate_succ, vl, vl_repl B n]; simp
theorem mul_dist {V T x y : Int} {i k : Nat} : V + big ^ i * x * (T + big ^ k * y) = V + big ^ i * x * T + big ^ (i + k) * (x * y) := by
  rw [Int.mul_add, Int.pow_add]
  have : big ^ i * x * (big ^ k * y) = big ^ i * big ^ k * (x * y) := by
    rw [Int.mul_assoc, Int.mul_assoc, Int.mul_left_comm x]
  omega
theorem take_mul_lt {a b : List Int} (da : isD big a) (db : isD big b) {i : Nat} (hi : i ≤ a.length) : vl big (a.take i) * vl big b < big ^ (i + b.length) := by
  have h1 := vl_lt (B := big) (by decide) (isD_take da i)
  rw [List.length_take, Nat.min_eq_left hi] at h1
  have h2 := vl_lt (B := big) (by decide) db
  have h3 := vl_nonneg (B := big) (by decide) (isD_take da i)
  have h4 := vl_nonneg (B := big) (by decide) db
  rw [Int.pow_add]
  have h5 : vl big (a.take i) * vl big b ≤ vl big (a.take i) * big ^ b.length := Int.mul_le_mul_of_nonneg_left (by omega) h3
  have h6 : vl big (a.take i) * big ^ b.length < big ^ i * big ^ b.length := Int.mul_lt_mul_of_pos_right h1 (Int.pow_pos (by decide))
  omega
theorem powle {m k : Nat} (h : m ≤ k) : big ^ m ≤ big ^ k := by
  have := Nat.pow_le_pow_right (n := 1000000000) (by decide) h
  have e : ∀ j : Nat, big ^ j = ((1000000000 ^ j : Nat) : Int) := fun j => by rw [Int.natCast_pow]; rfl
  rw [e, e]; exact Int.ofNat_le.2 this
/-- a carry left over has a place -/
theorem carry_room {out : List Int} {c V : Int} {k m : Nat} (hd : isD big out) (hv : vl big out + big ^ k * c = V) (hc : 0 < c) (hV : V < big ^ m) : k < m := by
  rcases Nat.lt_or_ge k m with h | h
  · exact h
  · have h1 := vl_nonneg (B := big) (by decide) hd
    have h2 : big ^ m ≤ big ^ k := powle h
    have h3 : big ^ k * 1 ≤ big ^ k * c := Int.mul_le_mul_of_nonneg_left (by omega) (Int.pow_nonneg (by decide))
    omega

set_option maxHeartbeats 4000000 in
theorem Tryz.times (a b : List Int) (ha : a.length ≤ 100000) (hb : b.length ≤ 100000) (da : isD big a) (db : isD big b) :
    Con Tryz.prog Tryz.L 124 [.sl a.length (ints .u64 a), .sl b.length (ints .u64 b)] (.sl (pcs (vl big a * vl big b).toNat).length (ints .u64 (pcs (vl big a * vl big b).toNat))) := by
  refine rule124 Tryz.hL rfl rfl rfl ?_
  simp only [pc124, rs124, evX, evY, evZ, forall_const, implies_true, initE, stepF, D.clean, mvF, moF, tkF, shF, ariF, ciF, catF, scF, ebF, eqF, eqOk, eqPr, enF, notF, ngF, cvF, csF, csbF, lenF, lenSF, ixF, iaF, PX.slot, iaAF, faF, ldF, D.mem, stF, bxF, mkSF, boundF, fldF, mmF2, D.plain, D.isPure, optAll, D.dull, callVF, splice, D.cells, D.one, sets, resT, D.flat, D.flat0, D.simple, Nat.reduceBNe, Nat.reduceLT, reduceIte, Nat.reduceEqDiff, Nat.reduceAdd, Nat.reduceMul, Nat.reduceSub, Nat.reduceLeDiff, Int.reduceToNat, Int.reduceLT, Int.reduceLE, Int.reduceEq, Int.reduceNeg, Int.reduceSub, Int.reduceAdd, Int.reduceMul, stG_own, List.length_set]
  refine ⟨by omega, by omega, by omega, ?_⟩
  rw [repl_ints, show ((a.length : Int) + b.length + 1).toNat = a.length + b.length + 1 by omega]
  refine loopF_of (fun E => ∃ (i : Nat) (out : List Int), i ≤ a.length ∧ out.length = a.length + b.length + 1 ∧ isD big out ∧ vl big out = vl big (a.take i) * vl big b ∧
      E = [(1, .sl b.length (ints .u64 b)), (5, .own true 159 (a.length + b.length + 1) (ints .u64 out)), (19, .sl a.length (ints .u64 a)), (20, .int .i64 a.length), (21, .int .i64 i)])
    (fun E => match lk E 21 with | .int _ i => a.length - i.toNat | _ => 0)
    ⟨0, List.replicate (a.length + b.length + 1) 0, Nat.zero_le _, List.length_replicate, isD_repl _, by rw [vl_repl]; simp [vl], rfl⟩ ?_
  rintro _ ⟨i, out, hi, hlo, hdo, hv, rfl⟩
  simp only [evX, evY, evZ, forall_const, implies_true, initE, stepF, D.clean, mvF, moF, tkF, shF, ariF, ciF, catF, scF, ebF, eqF, eqOk, eqPr, enF, notF, ngF, cvF, csF, csbF, lenF, lenSF, ixF, iaF, PX.slot, iaAF, faF, ldF, D.mem, stF, bxF, mkSF, boundF, fldF, mmF2, D.plain, D.isPure, optAll, D.dull, callVF, splice, D.cells, D.one, sets, resT, D.flat, D.flat0, D.simple, Nat.reduceBNe, Nat.reduceLT, reduceIte, Nat.reduceEqDiff, Nat.reduceAdd, Nat.reduceMul, Nat.reduceSub, Nat.reduceLeDiff, Int.reduceToNat, Int.reduceLT, Int.reduceLE, Int.reduceEq, Int.reduceNeg, Int.reduceSub, Int.reduceAdd, Int.reduceMul, stG_own, List.length_set]
  refine ⟨fun h1 => ?_, fun h1 => ?_⟩
  · have hx := isD_getD (by decide) da i
    have hxa := vl_take (B := big) (l := a) (k := i) (by omega)
    have hlt := take_mul_lt da db (i := i + 1) (by omega)
    rw [hxa, Int.add_mul] at hlt
    have hxb : vl big (a.take (i + 1)) * vl big b = vl big (a.take i) * vl big b + big ^ i * a.getD i 0 * vl big b := by rw [hxa, Int.add_mul]
    generalize a.getD i 0 = x at hx hxa hlt hxb ⊢
    refine ⟨⟨by omega, by omega, by omega⟩, by omega, ?_⟩
    refine loopF_of (fun E => ∃ (k : Nat) (o : List Int) (c : Int), k ≤ b.length ∧ o.length = a.length + b.length + 1 ∧ isD big o ∧ 0 ≤ c ∧ c < big ∧
        vl big o + big ^ (i + k) * c = vl big (a.take i) * vl big b + big ^ i * x * vl big (b.take k) ∧
        E = [(1, .sl b.length (ints .u64 b)), (5, .own true 159 (a.length + b.length + 1) (ints .u64 o)), (6, .int .i64 i), (7, .int .u64 x), (8, .int .u64 c), (19, .sl a.length (ints .u64 a)), (20, .int .i64 a.length), (21, .int .i64 i), (26, .sl b.length (ints .u64 b)), (27, .int .i64 b.length), (28, .int .i64 k)])
      (fun E => match lk E 28 with | .int _ i => b.length - i.toNat | _ => 0)
      ⟨0, out, 0, Nat.zero_le _, hlo, hdo, by omega, by decide, by rw [hv]; simp [vl], rfl⟩ ?_
    rintro _ ⟨k, o, c, hk, hlo1, hdo1, hc0, hc1, hv1, rfl⟩
    simp only [evX, evY, evZ, forall_const, implies_true, initE, stepF, D.clean, mvF, moF, tkF, shF, ariF, ciF, catF, scF, ebF, eqF, eqOk, eqPr, enF, notF, ngF, cvF, csF, csbF, lenF, lenSF, ixF, iaF, PX.slot, iaAF, faF, ldF, D.mem, stF, bxF, mkSF, boundF, fldF, mmF2, D.plain, D.isPure, optAll, D.dull, callVF, splice, D.cells, D.one, sets, resT, D.flat, D.flat0, D.simple, Nat.reduceBNe, Nat.reduceLT, reduceIte, Nat.reduceEqDiff, Nat.reduceAdd, Nat.reduceMul, Nat.reduceSub, Nat.reduceLeDiff, Int.reduceToNat, Int.reduceLT, Int.reduceLE, Int.reduceEq, Int.reduceNeg, Int.reduceSub, Int.reduceAdd, Int.reduceMul, stG_own, List.length_set]
    refine ⟨fun h2 => ?_, fun h2 => ?_⟩
    · have hy := isD_getD (by decide) db k
      have hya := vl_take (B := big) (l := b) (k := k) (by omega)
      generalize b.getD k 0 = y at hy hya ⊢
      rw [show ((i : Int) + k).toNat = i + k by omega]
      have ho := isD_getD (by decide) hdo1 (i + k)
      obtain ⟨m0, m1, m2, m3, m4⟩ := mul_bound ⟨hc0, hc1⟩ ho hx hy
      have st := mul_step (out := o) (j := i + k) (c := c) (W := x * y) (by omega) hv1 rfl
      rw [← mul_dist, ← hya] at st
      generalize hs : c + (o.getD (i + k) 0 + x * y) = s at *
      generalize hxy : x * y = xy at *
      generalize o.getD (i + k) 0 = ok at *
      rw [Int.tdiv_eq_ediv_of_nonneg (by omega), Int.tmod_eq_emod_of_nonneg (by omega)]
      have d1 := Int.emod_nonneg s (show big ≠ 0 by decide)
      have d2 := Int.emod_lt_of_pos s (show 0 < big by decide)
      have hd1 := isD_set (j := i + k) hdo1 ⟨d1, d2⟩
      clear d1 d2
      and_intros <;> try omega
      exact ⟨k + 1, o.set (i + k) (s % big), s / big, by omega, by rw [List.length_set]; exact hlo1, hd1, Int.ediv_nonneg m1 (by decide), Int.ediv_lt_of_lt_mul (by decide) (by simp only [big]; omega), st, rfl, rfl, rfl⟩
    · obtain rfl : k = b.length := by omega
      rw [List.take_length, ← hxb] at hv1
      rw [← hxb] at hlt
      and_intros <;> try omega
      refine loopF_of (fun E => ∃ (k : Nat) (o : List Int) (c : Int), k ≤ i + b.length + 1 ∧ o.length = a.length + b.length + 1 ∧ isD big o ∧ 0 ≤ c ∧ c < big ∧
          vl big o + big ^ k * c = vl big (a.take (i + 1)) * vl big b ∧
          E = [(1, .sl b.length (ints .u64 b)), (5, .own true 159 (a.length + b.length + 1) (ints .u64 o)), (8, .int .u64 c), (11, .int .i64 k), (19, .sl a.length (ints .u64 a)), (20, .int .i64 a.length), (21, .int .i64 i)])
        (fun E => match lk E 11 with | .int _ j => i + b.length + 1 - j.toNat | _ => 0)
        ⟨i + b.length, o, c, by omega, hlo1, hdo1, hc0, hc1, hv1, by rw [show ((i + b.length : Nat) : Int) = (i : Int) + b.length by omega]⟩ ?_
      rintro _ ⟨k, o, c, hk, hlo1, hdo1, hc0, hc1, hv1, rfl⟩
      simp only [evX, evY, evZ, forall_const, implies_true, initE, stepF, D.clean, mvF, moF, tkF, shF, ariF, ciF, catF, scF, ebF, eqF, eqOk, eqPr, enF, notF, ngF, cvF, csF, csbF, lenF, lenSF, ixF, iaF, PX.slot, iaAF, faF, ldF, D.mem, stF, bxF, mkSF, boundF, fldF, mmF2, D.plain, D.isPure, optAll, D.dull, callVF, splice, D.cells, D.one, sets, resT, D.flat, D.flat0, D.simple, Nat.reduceBNe, Nat.reduceLT, reduceIte, Nat.reduceEqDiff, Nat.reduceAdd, Nat.reduceMul, Nat.reduceSub, Nat.reduceLeDiff, Int.reduceToNat, Int.reduceLT, Int.reduceLE, Int.reduceEq, Int.reduceNeg, Int.reduceSub, Int.reduceAdd, Int.reduceMul, stG_own, List.length_set]
      refine ⟨fun h2 => ?_, fun h2 => ?_⟩
      · have hr := carry_room hdo1 hv1 h2 hlt
        have ho := isD_getD (by decide) hdo1 k
        have st := mul_step (out := o) (j := k) (c := c) (W := 0) (by omega) hv1 rfl
        rw [Int.mul_zero, Int.add_zero, Int.add_zero] at st
        have ho1 := ho.2
        simp only [big] at ho1 hc1
        generalize hs : c + o.getD k 0 = s at *
        have s0 : 0 ≤ s := by omega
        have s1 : s < 2000000000 := by omega
        rw [Int.tdiv_eq_ediv_of_nonneg (by omega), Int.tmod_eq_emod_of_nonneg (by omega)]
        have hd1 := isD_set (j := k) hdo1 ⟨Int.emod_nonneg s (show big ≠ 0 by decide), Int.emod_lt_of_pos s (show 0 < big by decide)⟩
        and_intros <;> try omega
        exact ⟨k + 1, o.set k (s % big), s / big, by omega, by rw [List.length_set]; exact hlo1, hd1, Int.ediv_nonneg s0 (by decide), Int.ediv_lt_of_lt_mul (by decide) (by simp only [big]; omega), st, rfl, rfl, rfl⟩
      · obtain rfl : c = 0 := by omega
        rw [Int.mul_zero, Int.add_zero] at hv1
        and_intros <;> try omega
        exact ⟨i + 1, o, by omega, hlo1, hdo1, hv1, rfl, rfl⟩
  · obtain rfl : i = a.length := by omega
    rw [List.take_length] at hv
    have ht := Tryz.trim out (by omega)
    rw [show cutz out = pcs (vl big a * vl big b).toNat by rw [← hv]; exact cutz_eq (B := 1000000000) (by decide) hdo, hlo] at ht
    refine callF_of ht ?_
    (refine ev ?_; try with_reducible exact trivial)
end Go.Proofs

/-
  ARITHMETIC: integer.small, integer.divide. Own work.
-/
namespace Go.Proofs
open Go Go.Pi Go.RowKit Go.Ar

theorem Tryz.small (a : List Int) (d : Int) (ha : a.length ≤ 100000) (da : isD big a) (hd : 0 ≤ d ∧ d < big) :
    Con Tryz.prog Tryz.L 152 [.sl a.length (ints .u64 a), .int .u64 d] (.sl (pcs (vl big a * d).toNat).length (ints .u64 (pcs (vl big a * d).toNat))) := by
  refine rule152 Tryz.hL rfl rfl rfl ?_
  (simp only [pc152, rs152]; refine ev ?_; try with_reducible exact trivial)
  have h1 : isD big [d] := fun x hx => by rw [List.mem_singleton.1 hx]; exact hd
  have ht := Tryz.trim [d] (by simp)
  have hc : isD big (cutz [d]) := cutz_isD h1
  have hl : (cutz [d]).length ≤ 1 := cutz_length [d]
  have hv : vl big (cutz [d]) = d := by rw [cutz_vl]; simp [vl]
  have hm := Tryz.times a (cutz [d]) ha (by omega) da hc
  rw [hv] at hm
  refine callF_of ht ?_
  (refine ev ?_; try with_reducible exact trivial)
  refine callF_of hm ?_
  (refine ev ?_; try with_reducible exact trivial)

theorem pcs_zero : pcs 0 = [] := dgs_zero _
theorem pcs_one {n : Nat} (h : (pcs n).length = 1) : pcs n = [(n : Int)] ∧ 0 < n ∧ n < 1000000000 := by
  obtain ⟨x, hx⟩ := List.length_eq_one_iff.1 h
  have h1 := pcs_vl n
  have h2 := pcs_isD n
  rw [hx] at h1 h2
  have h3 := (h2 x (by simp)).2
  simp only [vl, Int.mul_zero, Int.add_zero, big] at h1 h3
  refine ⟨by rw [hx, h1], ?_, by omega⟩
  rcases Nat.eq_zero_or_pos n with h0 | h0
  · subst h0; rw [pcs_zero] at h; cases h
  · exact h0
theorem pcs_small {n : Nat} (h0 : 0 < n) (h : n < 1000000000) : pcs n = [(n : Int)] := by
  unfold pcs
  rw [dgs_pos (by decide) h0, Nat.mod_eq_of_lt h, Nat.div_eq_of_lt h, dgs_zero]
theorem vl_take1 {B : Int} {l : List Int} {j : Nat} (h : j < l.length) : vl B (l.take (j + 1)) = vl B (l.take j) + B ^ j * l.getD j 0 := vl_take h

theorem div_step {q a : List Int} {j : Nat} {b r x V : Int} (hb : 0 < b) (hb1 : b < big) (hr : 0 ≤ r ∧ r < b) (hx : 0 ≤ x ∧ x < big) (hj : j < q.length) (hq : q.getD j 0 = 0)
    (hv : vl big q * b + big ^ (j + 1) * r + (V + big ^ j * x) = vl big a) :
    (0 ≤ r * big ∧ r * big ≤ 18446744073709551615) ∧ (0 ≤ r * big + x ∧ r * big + x ≤ 18446744073709551615) ∧ (0 ≤ (r * big + x) / b ∧ (r * big + x) / b < big) ∧ (0 ≤ (r * big + x) % b ∧ (r * big + x) % b < b) ∧
    vl big (q.set j ((r * big + x) / b)) * b + big ^ j * ((r * big + x) % b) + V = vl big a := by
  have e0 : r * big = r * 1000000000 := rfl
  refine ⟨⟨Int.mul_nonneg hr.1 (by decide), by simp only [big] at *; omega⟩, ⟨by simp only [big] at *; omega, by simp only [big] at *; omega⟩, ⟨Int.ediv_nonneg (by simp only [big] at *; omega) (by omega), Int.ediv_lt_of_lt_mul hb (by simp only [big] at *; omega)⟩, ⟨Int.emod_nonneg _ (by omega), Int.emod_lt_of_pos _ hb⟩, ?_⟩
  rw [vl_set hj, hq, Int.sub_zero, Int.add_mul]
  have e := Int.emod_add_mul_ediv (r * big + x) b
  generalize (r * big + x) / b = d at e
  generalize (r * big + x) % b = t at e
  have e1 : big ^ j * d * b + big ^ j * t = big ^ j * (r * big + x) := by rw [← e, Int.mul_add, Int.mul_assoc, Int.mul_comm d b]; omega
  have e2 : big ^ j * (r * big + x) = big ^ (j + 1) * r + big ^ j * x := by rw [Int.mul_add, Int.pow_succ, Int.mul_assoc, Int.mul_comm r big]
  omega

set_option maxHeartbeats 4000000 in
theorem Tryz.divide1 (m n : Nat) (hm : (pcs m).length ≤ 90000) (hn : (pcs n).length ≤ 90000) (h0 : m < n ∨ (pcs n).length = 1) :
    Con Tryz.prog Tryz.L 129 [.sl (pcs m).length (ints .u64 (pcs m)), .sl (pcs n).length (ints .u64 (pcs n))] (.tup [.sl (pcs (m / n)).length (ints .u64 (pcs (m / n))), .sl (pcs (m % n)).length (ints .u64 (pcs (m % n)))]) := by
  refine rule129 Tryz.hL (fun q hq => by simp [PC.backs, pc129] at hq; subst hq; exact back166) rfl rfl rfl ?_
  (simp only [pc129, rs129]; refine ev ?_; try with_reducible exact trivial)
  refine callF_of (Tryz.order m n (by omega) (by omega)) ?_
  (refine ev ?_; try with_reducible exact trivial)
  have c0 : cmpN m n < 0 ↔ m < n := by unfold cmpN; split <;> (try split) <;> omega
  refine ⟨fun h1 => ?_, fun h1 => ⟨fun h2 => ?_, fun h2 => ?_⟩⟩
  · have h1 := c0.1 h1
    rw [Nat.div_eq_of_lt h1, Nat.mod_eq_of_lt h1, pcs_zero]
    simp [resD_two, rvD, lk, D.plain, D.isPure, optAll, ofCells, D.one, ints]
  · obtain ⟨hx, hp, hlt⟩ := pcs_one (show (pcs n).length = 1 by omega)
    rw [hx]
    have ha := pcs_isD m
    have va := pcs_vl m
    have hL : (pcs m).length ≤ 90000 := hm
    generalize pcs m = a at *
    refine ⟨⟨by omega, by omega, by omega, by omega⟩, ?_⟩
    refine callF_of (Tryz.c144 _ _) ?_
    (refine ev ?_; try with_reducible exact trivial)
    rw [repl_ints]
    refine rfnF_of (fun k E => ∃ (q : List Int) (r : Int), k ≤ a.length ∧ q.length = a.length ∧ isD big q ∧ 0 ≤ r ∧ r < n ∧ (∀ i, i < a.length - k → q.getD i 0 = 0) ∧
        vl big q * n + big ^ (a.length - k) * r + vl big (a.take (a.length - k)) = vl big a ∧
        E = [(3, .box true [.sl 1 [.int .u64 n]]), (4, .gbox 1000004), (6, .box true [.int .u64 r]), (26, .clo 166 [.pt [.sl a.length (ints .u64 a)]]), (1000004, .own true 159 a.length (ints .u64 q))])
      (by rw [ints_length, Nat.mul_one]) ⟨List.replicate a.length 0, 0, by omega, List.length_replicate, isD_repl _, by omega, by omega, fun i hi => by rw [List.getD_eq_getElem?_getD, List.getElem?_replicate]; split <;> rfl, by rw [vl_repl, Nat.sub_zero, List.take_length]; simp, rfl⟩ (fun k E1 hE => by obtain ⟨_, _, _, _, _, _, _, _, _, rfl⟩ := hE; rfl) ?_ ?_
    · rintro _ ⟨q, r, _, hql, hqd, hr0, hr1, _, hv, rfl⟩
      (refine ev ?_; try with_reducible exact trivial)
      rw [Nat.sub_self] at hv
      simp only [List.take_zero, vl, Int.pow_zero, Int.one_mul, Int.add_zero] at hv
      have hq0 := vl_nonneg (B := big) (by decide) hqd
      obtain ⟨u, hu⟩ : ∃ u : Nat, vl big q = u := ⟨(vl big q).toNat, by omega⟩
      obtain ⟨v, rfl⟩ : ∃ v : Nat, r = v := ⟨r.toNat, by omega⟩
      have e : m = u * n + v := by
        have : ((u * n + v : Nat) : Int) = m := by rw [Int.natCast_add, Int.natCast_mul, ← hu, hv, va]
        omega
      have e1 : m / n = u := by rw [e, Nat.add_comm, Nat.add_mul_div_right _ _ hp, Nat.div_eq_of_lt (by omega), Nat.zero_add]
      have e2 : m % n = v := by rw [e, Nat.add_comm, Nat.add_mul_mod_self_right, Nat.mod_eq_of_lt (by omega)]
      have ht := Tryz.trim q (by omega)
      rw [cutz_eq (B := 1000000000) (by decide) hqd, show vl ((1000000000 : Nat) : Int) q = (u : Int) from hu, Int.toNat_natCast, hql] at ht
      have hd2 : isD big [(v : Int)] := fun x hx => by rw [List.mem_singleton.1 hx]; exact ⟨by omega, by simp only [big]; omega⟩
      have ht2 := Tryz.trim [(v : Int)] (by simp)
      rw [cutz_eq (B := 1000000000) (by decide) hd2, show (vl ((1000000000 : Nat) : Int) [(v : Int)]).toNat = v by simp [vl]] at ht2
      refine callF_of ht ?_
      (refine ev ?_; try with_reducible exact trivial)
      refine callF_of ht2 ?_
      (refine ev ?_; try with_reducible exact trivial)
      rw [e1, e2]
      simp [resD_two, rvD, lk, D.plain, D.isPure, optAll, ofCells, D.one, ints]
    · rintro k _ hkm ⟨q, r, hk, hql, hqd, hr0, hr1, hz, hv, rfl⟩
      obtain ⟨j, hj⟩ : ∃ j, a.length - k = j + 1 := ⟨a.length - k - 1, by omega⟩
      have hj2 : a.length - 1 - k = j := by omega
      have hj3 : a.length - (k + 1) = j := by omega
      rw [hj] at hv hz
      rw [hj2, hj3, Nat.mul_one]
      have hx2 := isD_getD (by decide) ha j
      have hxa := vl_take (B := big) (l := a) (k := j) (by omega)
      have hcell : (ints .u64 a).drop j = .int .u64 (a.getD j 0) :: (ints .u64 a).drop (j + 1) := by
        rw [List.drop_eq_getElem_cons (by rw [ints_length]; omega)]
        congr 1
        simp [ints, List.getD_eq_getElem?_getD, List.getElem?_eq_getElem (show j < a.length by omega)]
      rw [hxa] at hv
      generalize a.getD j 0 = x at hx2 hcell hv
      obtain ⟨b1, b2, b3, b4, st⟩ := div_step (by omega) (by simp only [big]; omega) ⟨hr0, hr1⟩ hx2 (by omega) (hz j (by omega)) hv
      refine ⟨_, by rw [hcell]; rfl, rfl, ?_⟩
      simp only [evX, evY, evZ, forall_const, implies_true, initE, stepF, D.clean, mvF, moF, tkF, shF, ariF, ciF, catF, scF, ebF, eqF, eqOk, eqPr, enF, notF, ngF, cvF, csF, csbF, lenF, lenSF, ixF, iaF, PX.slot, iaAF, faF, ldF, D.mem, stF, bxF, mkSF, boundF, fldF, mmF2, D.plain, D.isPure, optAll, D.dull, callVF, splice, D.cells, D.one, sets, resT, D.flat, D.flat0, D.simple, Nat.reduceBNe, Nat.reduceLT, reduceIte, Nat.reduceEqDiff, Nat.reduceAdd, Nat.reduceMul, Nat.reduceSub, Nat.reduceLeDiff, Int.reduceToNat, Int.reduceLT, Int.reduceLE, Int.reduceEq, Int.reduceNeg, Int.reduceSub, Int.reduceAdd, Int.reduceMul, stG_own, List.length_set]
      have q1 : Int.tdiv (r * 1000000000 + x) n = (r * big + x) / n := Int.tdiv_eq_ediv_of_nonneg b2.1
      have q2 : Int.tmod (r * 1000000000 + x) n = (r * big + x) % n := Int.tmod_eq_emod_of_nonneg b2.1
      rw [q1, q2]
      have hz2 : ∀ i, i < j → (q.set j ((r * big + x) / n)).getD i 0 = 0 := fun i hi => by
        rw [List.getD_eq_getElem?_getD, List.getElem?_set_ne (by omega), ← List.getD_eq_getElem?_getD]
        exact hz i (by omega)
      have hd1 := isD_set (j := j) hqd b3
      generalize (r * big + x) / n = d at *
      generalize (r * big + x) % n = t at *
      simp only [big] at b1 b2 b3
      and_intros <;> try omega
      exact ⟨q.set j d, t, by omega, by rw [List.length_set]; exact hql, hd1, b4.1, b4.2, hz2, st, rfl, rfl⟩
  · omega
end Go.Proofs

/-
  ARITHMETIC: pieces of numbers in plain Nat; contracts by numbers. Own work.
-/
namespace Go.Proofs
open Go Go.Pi Go.RowKit Go.Ar

theorem pcs_cons {n : Nat} (h : 0 < n) : pcs n = ((n % 1000000000 : Nat) : Int) :: pcs (n / 1000000000) := dgs_pos (by decide) h
theorem pcs_drop (n j : Nat) : (pcs n).drop j = pcs (n / 1000000000 ^ j) := by
  induction j generalizing n with
  | zero => simp
  | succ j ih =>
    rcases Nat.eq_zero_or_pos n with h | h
    · subst h; rw [Nat.zero_div, pcs_zero, List.drop_nil]
    · rw [pcs_cons h, List.drop_succ_cons, ih, Nat.div_div_eq_div_mul, Nat.pow_succ, Nat.mul_comm (1000000000 ^ j)]
theorem pcs_getD (n j : Nat) : (pcs n).getD j 0 = ((n / 1000000000 ^ j % 1000000000 : Nat) : Int) := by
  have h := pcs_drop n j
  rcases Nat.eq_zero_or_pos (n / 1000000000 ^ j) with h0 | h0
  · rw [h0, pcs_zero] at h
    rw [h0, List.getD_eq_getElem?_getD, List.getElem?_eq_none (by have := congrArg List.length h; simp at this; omega)]; rfl
  · rw [pcs_cons h0] at h
    have := congrArg List.head? h
    rw [List.head?_drop] at this
    rw [List.getD_eq_getElem?_getD, this]; rfl
theorem pcs_len_le {n k : Nat} (h : n < 1000000000 ^ k) : (pcs n).length ≤ k := dgs_len (by decide) h
theorem pcs_lt (n : Nat) : n < 1000000000 ^ (pcs n).length := by
  have h := vl_lt (B := big) (by decide) (pcs_isD n)
  rw [pcs_vl] at h
  have e : big ^ (pcs n).length = ((1000000000 ^ (pcs n).length : Nat) : Int) := by rw [Int.natCast_pow]; rfl
  rw [e] at h; exact Int.ofNat_lt.1 h
theorem pcs_len_mono {m n : Nat} (h : m ≤ n) : (pcs m).length ≤ (pcs n).length := pcs_len_le (Nat.lt_of_le_of_lt h (pcs_lt n))
theorem pcs_len_pos {n : Nat} (h : 0 < n) : 0 < (pcs n).length := by rw [pcs_cons h]; simp
theorem pcs_le {n : Nat} (h : 0 < n) : 1000000000 ^ ((pcs n).length - 1) ≤ n := by
  rcases Nat.lt_or_ge n (1000000000 ^ ((pcs n).length - 1)) with h1 | h1
  · have := pcs_len_le h1; have := pcs_len_pos h; omega
  · exact h1
/-- the uppermost piece -/
theorem pcs_top {n : Nat} (h : 0 < n) : (pcs n).getD ((pcs n).length - 1) 0 = ((n / 1000000000 ^ ((pcs n).length - 1) : Nat) : Int) ∧ 0 < n / 1000000000 ^ ((pcs n).length - 1) ∧ n / 1000000000 ^ ((pcs n).length - 1) < 1000000000 := by
  have h1 := pcs_le h
  have h2 := pcs_lt n
  have h3 := pcs_len_pos h
  have hp : 0 < 1000000000 ^ ((pcs n).length - 1) := Nat.pow_pos (by decide)
  have h4 : n / 1000000000 ^ ((pcs n).length - 1) < 1000000000 := by
    rw [Nat.div_lt_iff_lt_mul hp]
    have e : (pcs n).length = (pcs n).length - 1 + 1 := by omega
    rw [e, Nat.pow_succ] at h2
    rw [Nat.mul_comm]; exact h2
  exact ⟨by rw [pcs_getD, Nat.mod_eq_of_lt h4], Nat.div_pos h1 hp, h4⟩
theorem pcs_trim_cons (x r : Nat) (hx : x < 1000000000) : cutz ((x : Int) :: pcs r) = pcs (x + 1000000000 * r) := by
  have hd : isD big ((x : Int) :: pcs r) := by
    intro y hy
    rcases List.mem_cons.1 hy with rfl | hy
    · exact ⟨by omega, by simp only [big]; omega⟩
    · exact pcs_isD r y hy
  have := cutz_eq (B := 1000000000) (by decide) hd
  rw [this]
  congr 1
  have e : vl ((1000000000 : Nat) : Int) (pcs r) = r := pcs_vl r
  simp only [vl, e]
  omega
theorem pcs_len_mul {m f k l : Nat} (hm : (pcs m).length ≤ k) (hf : (pcs f).length ≤ l) : (pcs (m * f)).length ≤ k + l := by
  refine pcs_len_le ?_
  have h1 := pcs_lt m
  have h2 := pcs_lt f
  have h3 : m < 1000000000 ^ k := Nat.lt_of_lt_of_le h1 (Nat.pow_le_pow_right (by decide) hm)
  have h4 : f < 1000000000 ^ l := Nat.lt_of_lt_of_le h2 (Nat.pow_le_pow_right (by decide) hf)
  rw [Nat.pow_add]
  exact Nat.mul_lt_mul'' h3 h4
theorem pcs_len_add {m n k : Nat} (hm : (pcs m).length ≤ k) (hn : (pcs n).length ≤ k) : (pcs (m + n)).length ≤ k + 1 := by
  refine pcs_len_le ?_
  have h3 : m < 1000000000 ^ k := Nat.lt_of_lt_of_le (pcs_lt m) (Nat.pow_le_pow_right (by decide) hm)
  have h4 : n < 1000000000 ^ k := Nat.lt_of_lt_of_le (pcs_lt n) (Nat.pow_le_pow_right (by decide) hn)
  rw [Nat.pow_succ]; omega
theorem pcs_len_one {f : Nat} (h : f < 1000000000) : (pcs f).length ≤ 1 := pcs_len_le (by simpa using h)
/-- the estimate of a digit is not too small -/
theorem est {r b c : Nat} (hc : 0 < c) (hb : 0 < b / c) : r / b ≤ r / c / (b / c) := by
  rw [Nat.le_div_iff_mul_le hb, Nat.le_div_iff_mul_le hc]
  have h1 : b / c * c ≤ b := Nat.div_mul_le_self b c
  have h2 : r / b * b ≤ r := Nat.div_mul_le_self r b
  calc r / b * (b / c) * c = r / b * (b / c * c) := Nat.mul_assoc ..
    _ ≤ r / b * b := Nat.mul_le_mul_left _ h1
    _ ≤ r := h2

/-- a number's slice -/
abbrev num (n : Nat) : D := .sl (pcs n).length (ints .u64 (pcs n))

theorem Tryz.n_small (m d : Nat) (hm : (pcs m).length ≤ 100000) (hd : d < 1000000000) : Con Tryz.prog Tryz.L 152 [num m, .int .u64 d] (num (m * d)) := by
  have h := Tryz.small (pcs m) d hm (pcs_isD m) ⟨by omega, by simp only [big]; omega⟩
  rw [pcs_vl, show ((m : Int) * d).toNat = m * d by rw [← Int.natCast_mul, Int.toNat_natCast]] at h
  exact h
theorem Tryz.n_times (m n : Nat) (hm : (pcs m).length ≤ 100000) (hn : (pcs n).length ≤ 100000) : Con Tryz.prog Tryz.L 124 [num m, num n] (num (m * n)) := by
  have h := Tryz.times (pcs m) (pcs n) hm hn (pcs_isD m) (pcs_isD n)
  rw [pcs_vl, pcs_vl, show ((m : Int) * n).toNat = m * n by rw [← Int.natCast_mul, Int.toNat_natCast]] at h
  exact h
theorem Tryz.n_plus (m n : Nat) (hm : (pcs m).length ≤ 100000) (hn : (pcs n).length ≤ 100000) : Con Tryz.prog Tryz.L 120 [num m, num n] (num (m + n)) := by
  have h := Tryz.plus (pcs m) (pcs n) hm hn (pcs_isD m) (pcs_isD n)
  rw [pcs_vl, pcs_vl, show ((m : Int) + n).toNat = m + n by omega] at h
  exact h
theorem Tryz.n_minus (m n : Nat) (hm : (pcs m).length ≤ 100000) (hn : n ≤ m) : Con Tryz.prog Tryz.L 123 [num m, num n] (num (m - n)) := by
  have h := Tryz.minus (pcs m) (pcs n) hm (pcs_len_mono hn) (pcs_isD m) (pcs_isD n) (by rw [pcs_vl, pcs_vl]; omega)
  rw [pcs_vl, pcs_vl, show ((m : Int) - n).toNat = m - n by omega] at h
  exact h
end Go.Proofs

/-
  ARITHMETIC: integer.divide. Own work.
-/
namespace Go.Proofs
open Go Go.Pi Go.RowKit Go.Ar

/-- the estimated digit -/
theorem dmin {R B c T : Nat} (hc : 0 < c) (hT : B / c = T) (h0 : 0 < T) (hB : 0 < B) (hR : R < B * 1000000000) :
    ∃ d : Nat, (if (999999999 : Int) < Int.tdiv ((R / c : Nat) : Int) T then (999999999 : Int) else Int.tdiv ((R / c : Nat) : Int) T) = d ∧ R / B ≤ d ∧ d < 1000000000 := by
  have h1 := est (r := R) (b := B) hc (by rw [hT]; exact h0)
  rw [hT] at h1
  have h2 : R / B < 1000000000 := Nat.div_lt_of_lt_mul hR
  have e : Int.tdiv ((R / c : Nat) : Int) T = ((R / c / T : Nat) : Int) := by rw [Int.tdiv_eq_ediv_of_nonneg (Int.natCast_nonneg _)]; rfl
  rw [e]
  generalize R / c / T = y at *
  generalize R / B = z at *
  split
  · exact ⟨999999999, rfl, by omega, by omega⟩
  · exact ⟨y, rfl, by omega, by omega⟩
theorem td_bound {Rc T : Nat} (h : Rc < 1000000000000000000) : (0 : Int) ≤ Int.tdiv (Rc : Int) T ∧ Int.tdiv (Rc : Int) T ≤ 18446744073709551615 := by
  rw [Int.tdiv_eq_ediv_of_nonneg (by omega)]
  have h7 : Rc / T ≤ Rc := Nat.div_le_self _ _
  have h8 : ((Rc : Int) / (T : Int)) = ((Rc / T : Nat) : Int) := rfl
  rw [h8]
  generalize Rc / T = y at *
  omega
theorem top_one {R k : Nat} (hR : 0 < R) (h : (pcs R).length = k) : (pcs R).getD (k - 1) 0 = ((R / 1000000000 ^ (k - 1) : Nat) : Int) ∧ R / 1000000000 ^ (k - 1) < 1000000000 := by
  subst h
  obtain ⟨h1, h2, h3⟩ := pcs_top hR
  exact ⟨h1, h3⟩
theorem top_two {R k : Nat} (hR : 0 < R) (hk : 0 < k) (h : (pcs R).length = k + 1) :
    ∃ a b : Nat, (pcs R).getD k 0 = a ∧ (pcs R).getD (k - 1) 0 = b ∧ a < 1000000000 ∧ b < 1000000000 ∧ a * 1000000000 + b = R / 1000000000 ^ (k - 1) := by
  obtain ⟨h1, h2, h3⟩ := pcs_top hR
  rw [h, Nat.add_sub_cancel] at h1 h3
  refine ⟨_, _, h1, pcs_getD R (k - 1), h3, Nat.mod_lt _ (by decide), ?_⟩
  have e : R / 1000000000 ^ k = R / 1000000000 ^ (k - 1) / 1000000000 := by
    rw [Nat.div_div_eq_div_mul, ← Nat.pow_succ, show (k - 1).succ = k by omega]
  rw [e, Nat.mul_comm]
  exact Nat.div_add_mod _ _

set_option maxHeartbeats 8000000 in
theorem Tryz.divide (m n : Nat) (hm : (pcs m).length ≤ 90000) (hn : (pcs n).length ≤ 90000) (h0 : 0 < n) :
    Con Tryz.prog Tryz.L 129 [num m, num n] (.tup [num (m / n), num (m % n)]) := by
  by_cases hs : m < n ∨ (pcs n).length = 1
  · exact Tryz.divide1 m n hm hn hs
  obtain ⟨hs1, hs2⟩ := not_or.1 hs
  have hlen := pcs_len_pos h0
  obtain ⟨ht1, ht2, ht3⟩ := pcs_top h0
  have key : 1000000000 ^ ((pcs n).length - 1) * (n / 1000000000 ^ ((pcs n).length - 1)) ≤ n := Nat.mul_div_le _ _
  have key2 : n < 1000000000 ^ ((pcs n).length - 1) * (n / 1000000000 ^ ((pcs n).length - 1) + 1) := by
    rw [Nat.mul_add, Nat.mul_one]; have h1 := Nat.div_add_mod n (1000000000 ^ ((pcs n).length - 1)); have h2 := Nat.mod_lt n (show 0 < 1000000000 ^ ((pcs n).length - 1) from Nat.pow_pos (by decide)); omega
  have hf1 : 0 < 1000000000 / (n / 1000000000 ^ ((pcs n).length - 1) + 1) := Nat.div_pos (by omega) (by omega)
  have hf2 : 1000000000 / (n / 1000000000 ^ ((pcs n).length - 1) + 1) ≤ 500000000 := by
    have : 1000000000 / (n / 1000000000 ^ ((pcs n).length - 1) + 1) ≤ 1000000000 / 2 := Nat.div_le_div_left (by omega) (by decide)
    omega
  -- the scaled divisor has as many pieces
  have hf3 : n * (1000000000 / (n / 1000000000 ^ ((pcs n).length - 1) + 1)) < 1000000000 ^ (pcs n).length := by
    have e : (pcs n).length = (pcs n).length - 1 + 1 := by omega
    have h1 : n * (1000000000 / (n / 1000000000 ^ ((pcs n).length - 1) + 1)) < 1000000000 ^ ((pcs n).length - 1) * (n / 1000000000 ^ ((pcs n).length - 1) + 1) * (1000000000 / (n / 1000000000 ^ ((pcs n).length - 1) + 1)) := Nat.mul_lt_mul_of_pos_right key2 hf1
    have h2 : (n / 1000000000 ^ ((pcs n).length - 1) + 1) * (1000000000 / (n / 1000000000 ^ ((pcs n).length - 1) + 1)) ≤ 1000000000 := Nat.mul_div_le _ _
    rw [e, Nat.pow_succ, ← e]
    refine Nat.lt_of_lt_of_le h1 ?_
    rw [Nat.mul_assoc]
    exact Nat.mul_le_mul_left _ h2
  refine rule129 Tryz.hL (fun q hq => by simp [PC.backs, pc129] at hq; subst hq; exact back166) rfl rfl rfl ?_
  (simp only [pc129, rs129]; refine ev ?_; try with_reducible exact trivial)
  refine callF_of (Tryz.order m n (by omega) (by omega)) ?_
  (refine ev ?_; try with_reducible exact trivial)
  have c0 : cmpN m n < 0 ↔ m < n := by unfold cmpN; split <;> (try split) <;> omega
  refine ⟨fun h1 => absurd (c0.1 h1) hs1, fun h1 => ⟨fun h2 => absurd (by omega) hs2, fun h2 => ?_⟩⟩
  rw [show (((pcs n).length : Int) - 1).toNat = (pcs n).length - 1 by omega, ht1]
  generalize ht : n / 1000000000 ^ ((pcs n).length - 1) = top at *
  rw [show Int.tdiv 1000000000 ((top : Int) + 1) = ((1000000000 / (top + 1) : Nat) : Int) by rw [Int.tdiv_eq_ediv_of_nonneg (by decide)]; rfl]
  generalize hf : 1000000000 / (top + 1) = f at *
  have lf := pcs_len_one (f := f) (by omega)
  have lm := pcs_len_mul hm lf
  have ln : (pcs (n * f)).length = (pcs n).length := by
    have h1 := pcs_len_le hf3
    have h2 := pcs_len_mono (m := n) (n := n * f) (Nat.le_mul_of_pos_right _ hf1)
    omega
  and_intros <;> try omega
  refine callF_of (Tryz.n_small m f (by omega) (by omega)) ?_
  (refine ev ?_; try with_reducible exact trivial)
  refine callF_of (Tryz.n_small n f (by omega) (by omega)) ?_
  ((try simp only [num]); refine ev ?_; try with_reducible exact trivial)
  rw [repl_ints]
  have hb0 : 0 < n * f := Nat.mul_pos h0 hf1
  obtain ⟨hu1, hu2, hu3⟩ := pcs_top hb0
  rw [show (((pcs (n * f)).length : Int) - 1).toNat = (pcs (n * f)).length - 1 by omega, hu1]
  have fin1 : m * f / (n * f) = m / n := Nat.mul_div_mul_right _ _ hf1
  have fin2 : m * f % (n * f) = m % n * f := Nat.mul_mod_mul_right ..
  generalize hA : m * f = A at *
  generalize hB : n * f = B at *
  generalize hT : B / 1000000000 ^ ((pcs B).length - 1) = T at *
  and_intros <;> try omega
  refine loopF_of (fun E => ∃ (i : Nat) (q : List Int) (r : Nat) (d5 : D), (d5 = num r ∨ d5 = .own true 159 0 [] ∧ r = 0 ∧ i = (pcs A).length) ∧ i ≤ (pcs A).length ∧ q.length = (pcs A).length ∧ isD big q ∧ r < B ∧ (∀ k, k < i → q.getD k 0 = 0) ∧
      vl big q * B + big ^ i * r + vl big ((pcs A).take i) = A ∧
      E = [(0, num A), (3, .box true [num B]), (4, .gbox 1000004), (5, d5), (9, .int .u64 f), (10, .int .u64 T), (11, .int .i64 ((i : Int) - 1)), (1000004, .own true 159 (pcs A).length (ints .u64 q))])
    (fun E => match lk E 11 with | .int _ i => (i + 1).toNat | _ => 0)
    ⟨(pcs A).length, List.replicate (pcs A).length 0, 0, _, .inr ⟨rfl, rfl, rfl⟩, Nat.le_refl _, List.length_replicate, isD_repl _, hb0, fun i hi => by rw [List.getD_eq_getElem?_getD, List.getElem?_replicate]; split <;> rfl, by rw [vl_repl, List.take_length, pcs_vl]; simp, rfl⟩ ?_
  rintro _ ⟨i, q, r, d5, h5, hi, hql, hqd, hr, hz, hv, rfl⟩
  have hpost : i = 0 → r = A % B ∧ vl big q = ((A / B : Nat) : Int) := by
    rintro rfl
    simp only [List.take_zero, vl, Int.pow_zero, Int.one_mul, Int.add_zero] at hv
    have hq0 := vl_nonneg (B := big) (by decide) hqd
    obtain ⟨u, hu⟩ : ∃ u : Nat, vl big q = u := ⟨(vl big q).toNat, by omega⟩
    have e : A = u * B + r := by
      have : ((u * B + r : Nat) : Int) = A := by rw [Int.natCast_add, Int.natCast_mul, ← hu, hv]
      omega
    rw [hu, e]
    exact ⟨by rw [Nat.add_comm, Nat.add_mul_mod_self_right, Nat.mod_eq_of_lt hr], by rw [Nat.add_comm, Nat.add_mul_div_right _ _ hb0, Nat.div_eq_of_lt hr, Nat.zero_add]⟩
  have hround : ∀ j, i = j + 1 → ∃ x : Nat, x < 1000000000 ∧ (pcs A).getD j 0 = x ∧ cutz ((x : Int) :: pcs r) = pcs (x + 1000000000 * r) ∧ vl big q * B + big ^ j * ((x + 1000000000 * r : Nat) : Int) + vl big ((pcs A).take j) = A ∧ x + 1000000000 * r < B * 1000000000 := by
    rintro j rfl
    have hx := isD_getD (B := big) (by decide) (pcs_isD A) j
    have hxa := vl_take (B := big) (l := pcs A) (k := j) (by omega)
    obtain ⟨x, hx3⟩ : ∃ x : Nat, (pcs A).getD j 0 = x := ⟨((pcs A).getD j 0).toNat, by omega⟩
    rw [hx3] at hx hxa
    have hx4 : x < 1000000000 := by have := hx.2; simp only [big] at this; omega
    refine ⟨x, hx4, hx3, pcs_trim_cons x r hx4, ?_, by omega⟩
    rw [hxa] at hv
    rw [← hv, Int.natCast_add, Int.natCast_mul, Int.mul_add, Int.pow_succ, Int.mul_assoc]
    show _ + (_ + big ^ j * (big * r)) + _ = _
    omega
  have hfin : ∀ R, R < B * 1000000000 → (pcs R).length ≤ (pcs B).length + 1 := fun R hR => pcs_len_le (by
    rw [Nat.pow_succ]; exact Nat.lt_of_lt_of_le hR (Nat.mul_le_mul_right _ (Nat.le_of_lt (pcs_lt B))))
  rcases h5 with rfl | ⟨rfl, rfl, rfl⟩
  all_goals
    ((try simp only [num]); refine ev ?_; try with_reducible exact trivial)
    refine ⟨fun h3 => ?_, fun h3 => ?_⟩
  rotate_left
  · obtain rfl : i = 0 := by omega
    obtain ⟨rfl, hu⟩ := hpost rfl
    have lr := pcs_len_mono (Nat.le_of_lt hr)
    have hdf := Tryz.divide1 (A % B) f (by omega) (by omega) (.inr (by rw [pcs_small hf1 (by omega)]; rfl))
    rw [pcs_small hf1 (by omega)] at hdf
    have htq := Tryz.trim q (by omega)
    rw [cutz_eq (B := 1000000000) (by decide) hqd, show vl ((1000000000 : Nat) : Int) q = ((A / B : Nat) : Int) from hu, Int.toNat_natCast, hql, fin1] at htq
    rw [fin2, Nat.mul_div_cancel _ hf1] at hdf
    rw [fin2]
    refine callF_of hdf ?_
    ((try simp only [num]); refine ev ?_; try with_reducible exact trivial)
    refine callF_of htq ?_
    (refine ev ?_; try with_reducible exact trivial)
    simp [resD_two, rvD, lk, D.plain, D.isPure, optAll, ofCells, D.one, ints, pcs]
  rotate_left
  · have := pcs_len_pos (show 0 < A by rw [← hA]; exact Nat.mul_pos (by omega) hf1); omega
  · obtain ⟨j, hj⟩ : ∃ j, (i : Nat) = j + 1 := ⟨i - 1, by omega⟩
    obtain ⟨x, hx, hxj, hxt, hxv, hxr⟩ := hround j hj
    rw [show ((i : Int) - 1).toNat = j by omega, hxj]
    have lr := pcs_len_mono (Nat.le_of_lt hr)
    have ht := Tryz.trim ((x : Int) :: pcs r) (by rw [List.length_cons]; omega)
    rw [hxt] at ht
    generalize hR : x + 1000000000 * r = R at *
    have lR := hfin R hxr
    have cR : cmpN R B < 0 ↔ R < B := by unfold cmpN; split <;> (try split) <;> omega
    and_intros <;> try omega
    refine callF_of (show Con _ _ _ [D.sl (1 + (pcs r).length) (D.int .u64 x :: ints .u64 (pcs r))] _ from by rw [Nat.add_comm]; exact ht) ?_
    ((try simp only [num]); refine ev ?_; try with_reducible exact trivial)
    refine callF_of (Tryz.order R B (by omega) (by omega)) ?_
    ((try simp only [num]); refine ev ?_; try with_reducible exact trivial)
    refine ⟨fun h4 => ⟨by omega, ⟨j, q, R, _, .inl rfl, by omega, hql, hqd, cR.1 h4, fun k hk => hz k (by omega), hxv, rfl, by rw [hj]; congr 2; omega, rfl⟩, by omega⟩, fun h4 => ?_⟩
    have hRB : B ≤ R := Nat.le_of_not_lt fun h => h4 (cR.2 h)
    have hlR := pcs_len_mono hRB
    have hlB := pcs_len_pos hb0
    have hc0 : 0 < 1000000000 ^ ((pcs B).length - 1) := Nat.pow_pos (by decide)
    obtain ⟨d0, hd0, hd1, hd2⟩ := dmin hc0 hT hu2 hb0 hxr
    refine ⟨by omega, by omega, by omega, fun h6 => ?_, fun h6 => ?_⟩
    · obtain ⟨ta, tb, hta, htb, hta1, htb1, hab⟩ := top_two (R := R) (k := (pcs B).length) (by omega) (by omega) (by omega)
      rw [show (((pcs R).length : Int) - 1).toNat = (pcs B).length by omega, show (((pcs R).length : Int) - 2).toNat = (pcs B).length - 1 by omega, hta, htb,
        show (ta : Int) * 1000000000 + tb = ((R / 1000000000 ^ ((pcs B).length - 1) : Nat) : Int) by rw [← hab]; omega, hd0]
      generalize R / 1000000000 ^ ((pcs B).length - 1) = Rc at *
      have hRc : Rc < 1000000000000000000 := by omega
      have htd := td_bound (T := T) hRc
      generalize Int.tdiv (Rc : Int) T = td at *
      and_intros <;> try omega
      refine callF_of (Tryz.n_small B d0 (by omega) hd2) ?_
      ((try simp only [num]); refine ev ?_; try with_reducible exact trivial)
      refine loopF_of (fun E => ∃ d : Nat, R / B ≤ d ∧ d < 1000000000 ∧
          E = [(0, num A), (3, .box true [num B]), (4, .gbox 1000004), (5, num R), (9, .int .u64 f), (10, .int .u64 T), (11, .int .i64 ((i : Int) - 1)), (12, .int .u64 d), (13, num (B * d)), (1000004, .own true 159 (pcs A).length (ints .u64 q))])
        (fun E => match lk E 12 with | .int _ i => i.toNat | _ => 0) ⟨d0, hd1, hd2, rfl⟩ ?_
      rintro _ ⟨d, hdl, hdu, rfl⟩
      have lBd := pcs_len_mul (m := B) (f := d) (Nat.le_refl _) (pcs_len_one hdu)
      ((try simp only [num]); refine ev ?_; try with_reducible exact trivial)
      refine callF_of (Tryz.order (B * d) R (by omega) (by omega)) ?_
      ((try simp only [num]); refine ev ?_; try with_reducible exact trivial)
      have cB : 0 < cmpN (B * d) R ↔ R < B * d := by unfold cmpN; split <;> (try split) <;> omega
      refine ⟨fun h7 => ?_, fun h7 => ?_⟩
      · have h8 := cB.1 h7
        have h9 : R / B < d := Nat.div_lt_of_lt_mul h8
        have h9' : R / B + 1 ≤ d := h9
        obtain ⟨e, rfl⟩ : ∃ e, d = e + 1 := ⟨d - 1, (Nat.sub_add_cancel (Nat.le_trans (Nat.le_add_left 1 _) h9')).symm⟩
        have h10 : B * (e + 1) - B = B * e := by rw [Nat.mul_add, Nat.mul_one, Nat.add_sub_cancel]
        have h11 := Tryz.n_minus (B * (e + 1)) B (by omega) (by rw [Nat.mul_add]; omega)
        rw [h10] at h11
        refine callF_of h11 ?_
        ((try simp only [num]); refine ev ?_; try with_reducible exact trivial)
        exact ⟨by omega, ⟨e, Nat.le_of_lt_succ h9, by omega, by congr 2; omega, rfl⟩, by omega⟩
      · have h8 : B * d ≤ R := Nat.le_of_not_lt fun h => h7 (cB.2 h)
        have h9 : d = R / B := Nat.le_antisymm ((Nat.le_div_iff_mul_le hb0).2 (by rw [Nat.mul_comm]; exact h8)) hdl
        have h10 : R - B * d = R % B := by rw [h9]; have := Nat.div_add_mod R B; omega
        have h11 := Tryz.n_minus R (B * d) (by omega) h8
        rw [h10] at h11
        refine callF_of h11 ?_
        ((try simp only [num]); refine ev ?_; try with_reducible exact trivial)
        rw [show ((i : Int) - 1).toNat = j by omega]
        have hmod := Nat.mod_lt R hb0
        have hv2 : vl big (q.set j d) * B + big ^ j * ((R % B : Nat) : Int) + vl big ((pcs A).take j) = A := by
          rw [vl_set (by omega), hz j (by omega), Int.sub_zero, Int.add_mul, ← hxv]
          have e1 : (R : Int) = d * B + ((R % B : Nat) : Int) := by
            have := Nat.div_add_mod R B
            rw [← h9] at this
            rw [← Int.natCast_mul, Nat.mul_comm]; omega
          have e2 : big ^ j * (R : Int) = big ^ j * d * B + big ^ j * ((R % B : Nat) : Int) := by rw [Int.mul_assoc, ← Int.mul_add, ← e1]
          rw [e2]; omega
        have hz2 : ∀ k, k < j → (q.set j (d : Int)).getD k 0 = 0 := fun k hk => by
          rw [List.getD_eq_getElem?_getD, List.getElem?_set_ne (by omega), ← List.getD_eq_getElem?_getD]
          exact hz k (by omega)
        have hd3 := isD_set (j := j) (d := (d : Int)) hqd ⟨by omega, by simp only [big]; omega⟩
        generalize R % B = rb at *
        and_intros <;> try omega
        exact ⟨j, q.set j d, rb, _, .inl rfl, by omega, by rw [List.length_set]; exact hql, hd3, hmod, hz2, hv2, rfl, by congr 2; omega, rfl⟩
    · obtain ⟨hta, hta1⟩ := top_one (R := R) (k := (pcs B).length) (by omega) (by omega)
      rw [show (((pcs R).length : Int) - 1).toNat = (pcs B).length - 1 by omega, hta, hd0]
      generalize R / 1000000000 ^ ((pcs B).length - 1) = Rc at *
      have hRc : Rc < 1000000000000000000 := by omega
      have htd := td_bound (T := T) hRc
      generalize Int.tdiv (Rc : Int) T = td at *
      and_intros <;> try omega
      refine callF_of (Tryz.n_small B d0 (by omega) hd2) ?_
      ((try simp only [num]); refine ev ?_; try with_reducible exact trivial)
      refine loopF_of (fun E => ∃ d : Nat, R / B ≤ d ∧ d < 1000000000 ∧
          E = [(0, num A), (3, .box true [num B]), (4, .gbox 1000004), (5, num R), (9, .int .u64 f), (10, .int .u64 T), (11, .int .i64 ((i : Int) - 1)), (12, .int .u64 d), (13, num (B * d)), (1000004, .own true 159 (pcs A).length (ints .u64 q))])
        (fun E => match lk E 12 with | .int _ i => i.toNat | _ => 0) ⟨d0, hd1, hd2, rfl⟩ ?_
      rintro _ ⟨d, hdl, hdu, rfl⟩
      have lBd := pcs_len_mul (m := B) (f := d) (Nat.le_refl _) (pcs_len_one hdu)
      ((try simp only [num]); refine ev ?_; try with_reducible exact trivial)
      refine callF_of (Tryz.order (B * d) R (by omega) (by omega)) ?_
      ((try simp only [num]); refine ev ?_; try with_reducible exact trivial)
      have cB : 0 < cmpN (B * d) R ↔ R < B * d := by unfold cmpN; split <;> (try split) <;> omega
      refine ⟨fun h7 => ?_, fun h7 => ?_⟩
      · have h8 := cB.1 h7
        have h9 : R / B < d := Nat.div_lt_of_lt_mul h8
        have h9' : R / B + 1 ≤ d := h9
        obtain ⟨e, rfl⟩ : ∃ e, d = e + 1 := ⟨d - 1, (Nat.sub_add_cancel (Nat.le_trans (Nat.le_add_left 1 _) h9')).symm⟩
        have h10 : B * (e + 1) - B = B * e := by rw [Nat.mul_add, Nat.mul_one, Nat.add_sub_cancel]
        have h11 := Tryz.n_minus (B * (e + 1)) B (by omega) (by rw [Nat.mul_add]; omega)
        rw [h10] at h11
        refine callF_of h11 ?_
        ((try simp only [num]); refine ev ?_; try with_reducible exact trivial)
        exact ⟨by omega, ⟨e, Nat.le_of_lt_succ h9, by omega, by congr 2; omega, rfl⟩, by omega⟩
      · have h8 : B * d ≤ R := Nat.le_of_not_lt fun h => h7 (cB.2 h)
        have h9 : d = R / B := Nat.le_antisymm ((Nat.le_div_iff_mul_le hb0).2 (by rw [Nat.mul_comm]; exact h8)) hdl
        have h10 : R - B * d = R % B := by rw [h9]; have := Nat.div_add_mod R B; omega
        have h11 := Tryz.n_minus R (B * d) (by omega) h8
        rw [h10] at h11
        refine callF_of h11 ?_
        ((try simp only [num]); refine ev ?_; try with_reducible exact trivial)
        rw [show ((i : Int) - 1).toNat = j by omega]
        have hmod := Nat.mod_lt R hb0
        have hv2 : vl big (q.set j d) * B + big ^ j * ((R % B : Nat) : Int) + vl big ((pcs A).take j) = A := by
          rw [vl_set (by omega), hz j (by omega), Int.sub_zero, Int.add_mul, ← hxv]
          have e1 : (R : Int) = d * B + ((R % B : Nat) : Int) := by
            have := Nat.div_add_mod R B
            rw [← h9] at this
            rw [← Int.natCast_mul, Nat.mul_comm]; omega
          have e2 : big ^ j * (R : Int) = big ^ j * d * B + big ^ j * ((R % B : Nat) : Int) := by rw [Int.mul_assoc, ← Int.mul_add, ← e1]
          rw [e2]; omega
        have hz2 : ∀ k, k < j → (q.set j (d : Int)).getD k 0 = 0 := fun k hk => by
          rw [List.getD_eq_getElem?_getD, List.getElem?_set_ne (by omega), ← List.getD_eq_getElem?_getD]
          exact hz k (by omega)
        have hd3 := isD_set (j := j) (d := (d : Int)) hqd ⟨by omega, by simp only [big]; omega⟩
        generalize R % B = rb at *
        and_intros <;> try omega
        exact ⟨j, q.set j d, rb, _, .inl rfl, by omega, by rw [List.length_set]; exact hql, hd3, hmod, hz2, hv2, rfl, by congr 2; omega, rfl⟩
  · obtain ⟨j, hj⟩ : ∃ j, ((pcs A).length : Nat) = j + 1 := ⟨(pcs A).length - 1, by omega⟩
    obtain ⟨x, hx, hxj, hxt, hxv, hxr⟩ := hround j hj
    rw [show (((pcs A).length : Int) - 1).toNat = j by omega, hxj]
    have ht := Tryz.trim ((x : Int) :: pcs 0) (by rw [List.length_cons]; have := pcs_len_mono (Nat.le_of_lt hr); omega)
    rw [hxt] at ht
    generalize hR : x + 1000000000 * 0 = R at *
    have lR := hfin R hxr
    have cR : cmpN R B < 0 ↔ R < B := by unfold cmpN; split <;> (try split) <;> omega
    and_intros <;> try omega
    refine callF_of (show Con _ _ _ [D.sl 1 [D.int .u64 x]] _ from by rw [pcs_zero] at ht; exact ht) ?_
    ((try simp only [num]); refine ev ?_; try with_reducible exact trivial)
    refine callF_of (Tryz.order R B (by omega) (by omega)) ?_
    ((try simp only [num]); refine ev ?_; try with_reducible exact trivial)
    refine ⟨fun h4 => ⟨by omega, ⟨j, q, R, _, .inl rfl, by omega, hql, hqd, cR.1 h4, fun k hk => hz k (by omega), hxv, rfl, by rw [hj]; congr 2; omega, rfl⟩, by omega⟩, fun h4 => ?_⟩
    have hRB : B ≤ R := Nat.le_of_not_lt fun h => h4 (cR.2 h)
    have hlR := pcs_len_mono hRB
    have hlB := pcs_len_pos hb0
    have hc0 : 0 < 1000000000 ^ ((pcs B).length - 1) := Nat.pow_pos (by decide)
    obtain ⟨d0, hd0, hd1, hd2⟩ := dmin hc0 hT hu2 hb0 hxr
    refine ⟨by omega, by omega, by omega, fun h6 => ?_, fun h6 => ?_⟩
    · obtain ⟨ta, tb, hta, htb, hta1, htb1, hab⟩ := top_two (R := R) (k := (pcs B).length) (by omega) (by omega) (by omega)
      rw [show (((pcs R).length : Int) - 1).toNat = (pcs B).length by omega, show (((pcs R).length : Int) - 2).toNat = (pcs B).length - 1 by omega, hta, htb,
        show (ta : Int) * 1000000000 + tb = ((R / 1000000000 ^ ((pcs B).length - 1) : Nat) : Int) by rw [← hab]; omega, hd0]
      generalize R / 1000000000 ^ ((pcs B).length - 1) = Rc at *
      have hRc : Rc < 1000000000000000000 := by omega
      have htd := td_bound (T := T) hRc
      generalize Int.tdiv (Rc : Int) T = td at *
      and_intros <;> try omega
      refine callF_of (Tryz.n_small B d0 (by omega) hd2) ?_
      ((try simp only [num]); refine ev ?_; try with_reducible exact trivial)
      refine loopF_of (fun E => ∃ d : Nat, R / B ≤ d ∧ d < 1000000000 ∧
          E = [(0, num A), (3, .box true [num B]), (4, .gbox 1000004), (5, num R), (9, .int .u64 f), (10, .int .u64 T), (11, .int .i64 (((pcs A).length : Int) - 1)), (12, .int .u64 d), (13, num (B * d)), (1000004, .own true 159 (pcs A).length (ints .u64 q))])
        (fun E => match lk E 12 with | .int _ i => i.toNat | _ => 0) ⟨d0, hd1, hd2, rfl⟩ ?_
      rintro _ ⟨d, hdl, hdu, rfl⟩
      have lBd := pcs_len_mul (m := B) (f := d) (Nat.le_refl _) (pcs_len_one hdu)
      ((try simp only [num]); refine ev ?_; try with_reducible exact trivial)
      refine callF_of (Tryz.order (B * d) R (by omega) (by omega)) ?_
      ((try simp only [num]); refine ev ?_; try with_reducible exact trivial)
      have cB : 0 < cmpN (B * d) R ↔ R < B * d := by unfold cmpN; split <;> (try split) <;> omega
      refine ⟨fun h7 => ?_, fun h7 => ?_⟩
      · have h8 := cB.1 h7
        have h9 : R / B < d := Nat.div_lt_of_lt_mul h8
        have h9' : R / B + 1 ≤ d := h9
        obtain ⟨e, rfl⟩ : ∃ e, d = e + 1 := ⟨d - 1, (Nat.sub_add_cancel (Nat.le_trans (Nat.le_add_left 1 _) h9')).symm⟩
        have h10 : B * (e + 1) - B = B * e := by rw [Nat.mul_add, Nat.mul_one, Nat.add_sub_cancel]
        have h11 := Tryz.n_minus (B * (e + 1)) B (by omega) (by rw [Nat.mul_add]; omega)
        rw [h10] at h11
        refine callF_of h11 ?_
        ((try simp only [num]); refine ev ?_; try with_reducible exact trivial)
        exact ⟨by omega, ⟨e, Nat.le_of_lt_succ h9, by omega, by congr 2; omega, rfl⟩, by omega⟩
      · have h8 : B * d ≤ R := Nat.le_of_not_lt fun h => h7 (cB.2 h)
        have h9 : d = R / B := Nat.le_antisymm ((Nat.le_div_iff_mul_le hb0).2 (by rw [Nat.mul_comm]; exact h8)) hdl
        have h10 : R - B * d = R % B := by rw [h9]; have := Nat.div_add_mod R B; omega
        have h11 := Tryz.n_minus R (B * d) (by omega) h8
        rw [h10] at h11
        refine callF_of h11 ?_
        ((try simp only [num]); refine ev ?_; try with_reducible exact trivial)
        rw [show (((pcs A).length : Int) - 1).toNat = j by omega]
        have hmod := Nat.mod_lt R hb0
        have hv2 : vl big (q.set j d) * B + big ^ j * ((R % B : Nat) : Int) + vl big ((pcs A).take j) = A := by
          rw [vl_set (by omega), hz j (by omega), Int.sub_zero, Int.add_mul, ← hxv]
          have e1 : (R : Int) = d * B + ((R % B : Nat) : Int) := by
            have := Nat.div_add_mod R B
            rw [← h9] at this
            rw [← Int.natCast_mul, Nat.mul_comm]; omega
          have e2 : big ^ j * (R : Int) = big ^ j * d * B + big ^ j * ((R % B : Nat) : Int) := by rw [Int.mul_assoc, ← Int.mul_add, ← e1]
          rw [e2]; omega
        have hz2 : ∀ k, k < j → (q.set j (d : Int)).getD k 0 = 0 := fun k hk => by
          rw [List.getD_eq_getElem?_getD, List.getElem?_set_ne (by omega), ← List.getD_eq_getElem?_getD]
          exact hz k (by omega)
        have hd3 := isD_set (j := j) (d := (d : Int)) hqd ⟨by omega, by simp only [big]; omega⟩
        generalize R % B = rb at *
        and_intros <;> try omega
        exact ⟨j, q.set j d, rb, _, .inl rfl, by omega, by rw [List.length_set]; exact hql, hd3, hmod, hz2, hv2, rfl, by congr 2; omega, rfl⟩
    · obtain ⟨hta, hta1⟩ := top_one (R := R) (k := (pcs B).length) (by omega) (by omega)
      rw [show (((pcs R).length : Int) - 1).toNat = (pcs B).length - 1 by omega, hta, hd0]
      generalize R / 1000000000 ^ ((pcs B).length - 1) = Rc at *
      have hRc : Rc < 1000000000000000000 := by omega
      have htd := td_bound (T := T) hRc
      generalize Int.tdiv (Rc : Int) T = td at *
      and_intros <;> try omega
      refine callF_of (Tryz.n_small B d0 (by omega) hd2) ?_
      ((try simp only [num]); refine ev ?_; try with_reducible exact trivial)
      refine loopF_of (fun E => ∃ d : Nat, R / B ≤ d ∧ d < 1000000000 ∧
          E = [(0, num A), (3, .box true [num B]), (4, .gbox 1000004), (5, num R), (9, .int .u64 f), (10, .int .u64 T), (11, .int .i64 (((pcs A).length : Int) - 1)), (12, .int .u64 d), (13, num (B * d)), (1000004, .own true 159 (pcs A).length (ints .u64 q))])
        (fun E => match lk E 12 with | .int _ i => i.toNat | _ => 0) ⟨d0, hd1, hd2, rfl⟩ ?_
      rintro _ ⟨d, hdl, hdu, rfl⟩
      have lBd := pcs_len_mul (m := B) (f := d) (Nat.le_refl _) (pcs_len_one hdu)
      ((try simp only [num]); refine ev ?_; try with_reducible exact trivial)
      refine callF_of (Tryz.order (B * d) R (by omega) (by omega)) ?_
      ((try simp only [num]); refine ev ?_; try with_reducible exact trivial)
      have cB : 0 < cmpN (B * d) R ↔ R < B * d := by unfold cmpN; split <;> (try split) <;> omega
      refine ⟨fun h7 => ?_, fun h7 => ?_⟩
      · have h8 := cB.1 h7
        have h9 : R / B < d := Nat.div_lt_of_lt_mul h8
        have h9' : R / B + 1 ≤ d := h9
        obtain ⟨e, rfl⟩ : ∃ e, d = e + 1 := ⟨d - 1, (Nat.sub_add_cancel (Nat.le_trans (Nat.le_add_left 1 _) h9')).symm⟩
        have h10 : B * (e + 1) - B = B * e := by rw [Nat.mul_add, Nat.mul_one, Nat.add_sub_cancel]
        have h11 := Tryz.n_minus (B * (e + 1)) B (by omega) (by rw [Nat.mul_add]; omega)
        rw [h10] at h11
        refine callF_of h11 ?_
        ((try simp only [num]); refine ev ?_; try with_reducible exact trivial)
        exact ⟨by omega, ⟨e, Nat.le_of_lt_succ h9, by omega, by congr 2; omega, rfl⟩, by omega⟩
      · have h8 : B * d ≤ R := Nat.le_of_not_lt fun h => h7 (cB.2 h)
        have h9 : d = R / B := Nat.le_antisymm ((Nat.le_div_iff_mul_le hb0).2 (by rw [Nat.mul_comm]; exact h8)) hdl
        have h10 : R - B * d = R % B := by rw [h9]; have := Nat.div_add_mod R B; omega
        have h11 := Tryz.n_minus R (B * d) (by omega) h8
        rw [h10] at h11
        refine callF_of h11 ?_
        ((try simp only [num]); refine ev ?_; try with_reducible exact trivial)
        rw [show (((pcs A).length : Int) - 1).toNat = j by omega]
        have hmod := Nat.mod_lt R hb0
        have hv2 : vl big (q.set j d) * B + big ^ j * ((R % B : Nat) : Int) + vl big ((pcs A).take j) = A := by
          rw [vl_set (by omega), hz j (by omega), Int.sub_zero, Int.add_mul, ← hxv]
          have e1 : (R : Int) = d * B + ((R % B : Nat) : Int) := by
            have := Nat.div_add_mod R B
            rw [← h9] at this
            rw [← Int.natCast_mul, Nat.mul_comm]; omega
          have e2 : big ^ j * (R : Int) = big ^ j * d * B + big ^ j * ((R % B : Nat) : Int) := by rw [Int.mul_assoc, ← Int.mul_add, ← e1]
          rw [e2]; omega
        have hz2 : ∀ k, k < j → (q.set j (d : Int)).getD k 0 = 0 := fun k hk => by
          rw [List.getD_eq_getElem?_getD, List.getElem?_set_ne (by omega), ← List.getD_eq_getElem?_getD]
          exact hz k (by omega)
        have hd3 := isD_set (j := j) (d := (d : Int)) hqd ⟨by omega, by simp only [big]; omega⟩
        generalize R % B = rb at *
        and_intros <;> try omega
        exact ⟨j, q.set j d, rb, _, .inl rfl, by omega, by rw [List.length_set]; exact hql, hd3, hmod, hz2, hv2, rfl, by congr 2; omega, rfl⟩
end Go.Proofs
