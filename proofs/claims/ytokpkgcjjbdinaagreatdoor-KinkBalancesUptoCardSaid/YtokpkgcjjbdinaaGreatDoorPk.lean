/-
 LISTS OF INTEGERS AS CELLS. Own work.
-/
import Derived.Test.YtokpkgcjjbdinaaGreatDoorPi
set_option linter.unusedVariables false
set_option linter.unusedSimpArgs false
namespace Go.Pi
open Go Go.RowKit

def ints (k : IntKind) (l : List Int) : List D := l.map (.int k)
theorem ints_nil {k : IntKind} : ints k [] = [] := rfl
theorem ints_length {k : IntKind} {l : List Int} : (ints k l).length = l.length := by simp [ints]
theorem ints_app {k : IntKind} {l m : List Int} : ints k l ++ ints k m = ints k (l ++ m) := by simp [ints]
theorem ints_snoc {k : IntKind} {l : List Int} {x : Int} : ints k l ++ [.int k x] = ints k (l ++ [x]) := by simp [ints]
theorem ints_take {k : IntKind} {l : List Int} {n : Nat} : (ints k l).take n = ints k (l.take n) := by simp [ints, List.map_take]
theorem ints_drop {k : IntKind} {l : List Int} {n : Nat} : (ints k l).drop n = ints k (l.drop n) := by simp [ints, List.map_drop]
theorem cut_ints {k : IntKind} {l : List Int} {a b : Nat} : cut 1 a b (ints k l) = ints k ((l.take b).drop a) := by simp [cut, ints, List.map_take, List.map_drop]

theorem ldC_ints {k : IntKind} {l : List Int} {j t : Nat} {N : EP} {E : Env} : ldC false 1 (List.take 1 (List.drop j (ints k l))) t N E = (j < l.length ∧ N (st1 E t (.int k (l.getD j 0)))) := by
 unfold ldC
 by_cases h : j < l.length
 ·have e : List.take 1 (List.drop j (ints k l)) = [.int k (l.getD j 0)] := by
   rw [ints_drop, ints_take]
   rw [List.drop_eq_getElem_cons h]
   simp only [List.take_succ_cons, List.take_zero, ints, List.map_cons, List.map_nil, List.getD_eq_getElem?_getD, List.getElem?_eq_getElem h, Option.getD_some]
  rw [e]
  simp [ofCells, D.one, h]
 ·have e : List.take 1 (List.drop j (ints k l)) = [] := by
   rw [ints_drop, List.drop_eq_nil_of_le (by omega)]; rfl
  rw [e]
  simp [ofCells, h]

theorem ldC_ints' {k : IntKind} {l : List Int} {j t : Nat} {N : EP} {E : Env} : ldC false 1 (List.drop j (ints k l)) t N E = (j < l.length ∧ N (st1 E t (.int k (l.getD j 0)))) := by
 rw [← ldC_ints]
 unfold ldC
 cases hq : List.drop j (ints k l) with
 | nil => rfl
 | cons d r => simp [ofCells]

theorem stG_ints {k : IntKind} {l : List Int} {j n m s t : Nat} {x : Int} {N : EP} {E : Env} : stG 1 s j (.own true n m (ints k l)) (.int k x) N E = (j < l.length ∧ N (st1 E s (.own true n m (ints k (l.set j x))))) := by
 simp only [stG, D.wr, D.cells, D.mem, D.isPure, D.setMem, List.length_singleton, List.all_cons, List.all_nil, D.one, Bool.and_self, true_and, ints_length]
 by_cases h : j < l.length
 ·have e : splice (ints k l) j [.int k x] = ints k (l.set j x) := by
   simp only [splice, List.length_singleton, ints_take, ints_drop]
   rw [List.set_eq_take_append_cons_drop, if_pos h]
   simp [ints]
  rw [e]
  simp [h, show j + 1 ≤ l.length by omega]
 ·simp [h, show ¬ j + 1 ≤ l.length by omega]

section ev2
variable {t s : Nat} {N : EP} {E : Env} {d : D} {n m : Nat} {cs ms : List D} {l : List UInt8}
theorem appF_oo {e e' e2 sz bytes : Nat} {u : Option Nat} {w w2 : Bool} : appF e sz bytes s u (.own w e' n cs) (.own w2 e2 m ms) t N E = (e' = e ∧ ms.length = m * sz ∧ (n + m) * bytes ≤ 140737488355328 ∧ n + m ≤ maxLen ∧
  N (match u with | some u => st1 (st1 (st1 E t (.own w e (n + m) (cs ++ ms))) s .un) u .un | none => st1 (st1 E t (.own w e (n + m) (cs ++ ms))) s .un)) := by
 exact propext ⟨fun ⟨m', ms', h, r⟩ => by cases h; exact r, fun h => ⟨m, ms, rfl, h⟩⟩
theorem appF_os {e e' sz bytes : Nat} {u : Option Nat} {w : Bool} : appF e sz bytes s u (.own w e' n cs) (.sl m ms) t N E = (e' = e ∧ ms.length = m * sz ∧ (n + m) * bytes ≤ 140737488355328 ∧ n + m ≤ maxLen ∧
  N (match u with | some u => st1 (st1 (st1 E t (.own w e (n + m) (cs ++ ms))) s .un) u .un | none => st1 (st1 E t (.own w e (n + m) (cs ++ ms))) s .un)) := by
 exact propext ⟨fun ⟨m', ms', h, r⟩ => by cases h; exact r, fun h => ⟨m, ms, rfl, h⟩⟩
def slc2 (sz s n : Nat) (cs : List D) (lo hi : Option Int) (g : D) (t : Nat) (N : EP) (E : Env) : Prop := match lo, hi with
 | some l, some h => 0 ≤ l ∧ l ≤ h ∧ h ≤ n ∧ n * sz = cs.length ∧ N (st1 (st1 E t (.sl (h.toNat - l.toNat) (cut sz l.toNat h.toNat cs))) s g.dull)
 | _, _ => False
theorem slcF_o {sz e : Nat} {w : Bool} {lo hi : Option D} {g : D} : slcF sz s (.own w e n cs) lo hi g t N E = slc2 sz s n cs (boundF 0 lo) (boundF n hi) g t N E := by
 unfold slcF slc2
 cases h1 : boundF 0 lo with
 | none => exact propext ⟨fun ⟨n', cs', h, l, e0, e1, e2, _⟩ => (by cases e2), fun h => h.elim⟩
 | some a => cases h2 : boundF n hi with
   | none => exact propext ⟨fun ⟨n', cs', h, l, e0, e1, e2, _⟩ => (by cases e0; rw [h2] at e1; cases e1), fun h => h.elim⟩
   | some b => exact propext ⟨fun ⟨n', cs', h, l, e0, e1, e2, r⟩ => (by cases e0; rw [h2] at e1; cases e1; cases e2; exact r), fun r => ⟨n, cs, b, a, rfl, h2, rfl, r⟩⟩
theorem slcF_s {sz : Nat} {lo hi : Option D} {g : D} : slcF sz s (.sl n cs) lo hi g t N E = slc2 sz s n cs (boundF 0 lo) (boundF n hi) g t N E := by
 unfold slcF slc2
 cases h1 : boundF 0 lo with
 | none => exact propext ⟨fun ⟨n', cs', h, l, e0, e1, e2, _⟩ => (by cases e2), fun h => h.elim⟩
 | some a => cases h2 : boundF n hi with
   | none => exact propext ⟨fun ⟨n', cs', h, l, e0, e1, e2, _⟩ => (by cases e0; rw [h2] at e1; cases e1), fun h => h.elim⟩
   | some b => exact propext ⟨fun ⟨n', cs', h, l, e0, e1, e2, r⟩ => (by cases e0; rw [h2] at e1; cases e1; cases e2; exact r), fun r => ⟨n, cs, b, a, rfl, h2, rfl, r⟩⟩
theorem slc2_eq {sz : Nat} {a b : Int} {g : D} : slc2 sz s n cs (some a) (some b) g t N E = (0 ≤ a ∧ a ≤ b ∧ b ≤ n ∧ n * sz = cs.length ∧ N (st1 (st1 E t (.sl (b.toNat - a.toNat) (cut sz a.toNat b.toNat cs))) s g.dull)) := rfl
def slS2 (c : List UInt8) (lo hi : Option Int) (t : Nat) (N : EP) (E : Env) : Prop := match lo, hi with
 | some l, some h => 0 ≤ l ∧ l ≤ h ∧ h ≤ c.length ∧ N (st1 E t (.str ((c.take h.toNat).drop l.toNat)))
 | _, _ => False
theorem slSF_eq {lo hi : Option D} : slSF (.str l) lo hi t N E = slS2 l (boundF 0 lo) (boundF l.length hi) t N E := by
 unfold slSF slS2
 cases h1 : boundF 0 lo <;> cases h2 : boundF l.length hi <;> simp [h2]
theorem slS2_eq {a b : Int} : slS2 l (some a) (some b) t N E = (0 ≤ a ∧ a ≤ b ∧ b ≤ l.length ∧ N (st1 E t (.str ((l.take b.toNat).drop a.toNat)))) := rfl
theorem bldF_eq : bldF (some cs) t N E = N (st1 E t (.agg cs)) := by simp [bldF]
theorem bldSF_eq {e : Nat} : bldSF e n (some cs) t N E = N (st1 E t (.own true e n cs)) := by simp [bldSF]
theorem slAF_b {sz : Nat} {w : Bool} {g : D} : slAF n sz s (.box w cs) g t N E = (n * sz ≤ cs.length ∧ n ≤ 1000 ∧ N (st1 (st1 E t (.sl n (cs.take (n * sz)))) s g.dull)) := rfl
theorem slAF_p {sz : Nat} {g : D} : slAF n sz s (.pt cs) g t N E = (n * sz ≤ cs.length ∧ n ≤ 1000 ∧ N (st1 (st1 E t (.sl n (cs.take (n * sz)))) s g.dull)) := rfl
theorem s2aF_s {sz m : Nat} : s2aF n sz (.sl m cs) t N E = ((n ≤ m ∧ 0 < n ∧ n * sz ≤ cs.length) ∧ N (st1 E t (.pt (cs.take (n * sz))))) := rfl
theorem bldAF_eq {dl : List (Nat × D)} : bldAF (some cs) dl t N E = N (sets (st1 E t (.agg cs)) dl) := by simp [bldAF]
theorem bldLF_eq {e : Nat} {dl : List (Nat × D)} : bldLF e n (some cs) dl t N E = N (sets (st1 E t (.own true e n cs)) dl) := by simp [bldLF]
theorem mkfF_eq {f : FuncId} {dl : List (Nat × D)} : mkfF f (some cs) dl t N E = N (sets (st1 E t (.clo f cs)) dl) := by simp [mkfF]
def extO (d : Option D) (t : Nat) (N : EP) (E : Env) : Prop := match d with | some d => putF d t N E | none => False
theorem extF_eq {i : Nat} : extF i (.tup cs) t N E = extO cs[i]? t N E := by
 unfold extF extO
 cases h : cs[i]? with
 | none => exact propext ⟨fun ⟨d, e, _⟩ => by (simp only [h] at e; cases e), fun h => h.elim⟩
 | some d => exact propext ⟨fun ⟨d', e, r⟩ => by (simp only [h] at e; cases e; exact r), fun r => ⟨d, h, r⟩⟩
theorem extO_eq : extO (some d) t N E = putF d t N E := rfl
theorem ldC_agg : ldC true n cs t N E = (n ≤ cs.length ∧ N (st1 E t (.agg (cs.take n)))) := by
 unfold ldC ofCells
 by_cases h : n ≤ cs.length <;> simp [h]
theorem ldC_cons : ldC false 1 (d :: cs) t N E = (d.one = true ∧ N (st1 E t d)) := by
 have e : ofCells false 1 (d :: cs) = if d.one = true then some d else none := by simp [ofCells]
 unfold ldC
 rw [e]
 cases h : d.one
 ·exact propext ⟨fun ⟨d', e, _⟩ => (by cases e), fun h => (by cases h.1)⟩
 ·exact propext ⟨fun ⟨d', e, r⟩ => (by cases e; exact ⟨rfl, r⟩), fun r => ⟨d, rfl, r.2⟩⟩
theorem cbsF_s : cbsF (.sl n (byD l)) t N E = (n = l.length ∧ N (st1 E t (.str l))) := by
 simp only [cbsF, byD, List.length_map]
 refine propext (and_congr_right fun _ => ⟨fun ⟨l', h1, h2⟩ => ?_, fun h => ⟨l, rfl, h⟩⟩)
 have : bytesOf (byD l') = bytesOf (byD l) := by unfold byD; rw [h1]
 rw [bytesOf_byD, bytesOf_byD] at this
 cases this; exact h2
theorem cbsF_o {w : Bool} {e : Nat} : cbsF (.own w e n (byD l)) t N E = (n = l.length ∧ N (st1 E t (.str l))) := cbsF_s
theorem stG_box {off : Nat} {v : D} : stG n s off (.box true cs) v N E = (v.cells.length = n ∧ off + n ≤ cs.length ∧ v.cells.all D.one = true ∧ v.isPure = true ∧ N (st1 E s (.box true (splice cs off v.cells)))) := by
 simp [stG, D.wr, D.mem, D.setMem]
theorem fillD_nil : fillD cs [] = some cs := rfl
theorem fillD_cons {off : Nat} {ps : List (Nat × Nat × D)} : fillD cs ((off, n, d) :: ps) = if d.cells.length = n ∧ off + n ≤ cs.length ∧ d.cells.all D.one = true ∧ d.isPure = true then fillD (splice cs off d.cells) ps else none := rfl
theorem maxLen_eq : maxLen = 9223372036854775807 := rfl
end ev2
end Go.Pi

/-
 THE READING, RUN: an interpreter for closed data, and the contract that a run gives. Own work.
-/
namespace Go.Pi
open Go Go.RowKit

/-- the readings of functions, and contracts that are known from elsewhere -/
structure Tab where
 fn : Nat → Option (PC × List RV × Nat)
 ext : Nat → List D → Option D

inductive Job where
 | code (pc : PC) (E : Env)
 | ops (ps : List PO) (E : Env)
 | call (f : FuncId) (ds : List D)

inductive Out where
 | ex (e : Ex) (E : Env)
 | env (E : Env)
 | val (d : D)

def runJ (T : Tab) : Nat → Job → Option Out
 | 0, _ => none
 | n + 1, .call f ds => match T.ext f ds with
   | some r => if (aliasOf r).isNone = true then some (.val r) else none
   | none => match T.fn f with
     | some (pc, rs, np) => if ds.length = np ∧ ds.all (fun d => (aliasOf d).isNone) = true then
       (match runJ T n (.code pc (initE 0 ds)) with
       | some (.ex (.exit _) _) => none
       | some (.ex _ E) => (match resD E rs with
         | some r => if (aliasOf r).isNone = true then some (.val r) else none
         | none => none)
       | _ => none) else none
     | none => none
 | _ + 1, .ops [] E => some (.env E)
 | n + 1, .ops (p :: ps) E => match p.guard with
   | some (s, want) => (match lk E s with
     | .bool b => if b = want then runJ T n (.ops (⟨p.dst, p.k, none⟩ :: ps) E) else runJ T n (.ops ps (st1 E p.d (.tup [])))
     | .tup [] => runJ T n (.ops ps (st1 E p.d (.tup [])))
     | _ => none)
   | none => (match p.k with
     | .call f args => (match optAll (args.map (lend (lk E))) with
       | some ds => (match runJ T n (.call f ds) with
         | some (.val r) => runJ T n (.ops ps (sets E ((K.call f args).after p.d (lk E) r)))
         | _ => none)
       | none => none)
     | .callV t args => (match lk E t with
       | .clo f caps => (match (optAll (args.map (lend (lk E)))).map (· ++ caps) with
         | some ds => (match runJ T n (.call f ds) with
           | some (.val r) => runJ T n (.ops ps (sets E ((K.callV t args).after p.d (lk E) r)))
           | _ => none)
         | none => none)
       | _ => none)
     | k => (match k.run p.d (lk E) with
       | some l => runJ T n (.ops ps (sets E l))
       | none => none))
 | n + 1, .code pc E => match pc with
   | .skip => some (.ex .nrm E)
   | .bad => none
   | .seq a b => (match runJ T n (.code a E) with
     | some (.ex .nrm E1) => runJ T n (.code b E1)
     | r => r)
   | .reg ops live => (match runJ T n (.ops ops E) with
     | some (.env E1) => some (.ex .nrm (keepE live E1))
     | _ => none)
   | .cnd c t e => (match c.ev (lk E) with
     | .bool b => if b = true then runJ T n (.code t E) else runJ T n (.code e E)
     | _ => none)
   | .blk id b => (match runJ T n (.code b E) with
     | some (.ex (.exit id') E1) => if id' = id then some (.ex .nrm E1) else some (.ex (.exit id') E1)
     | r => r)
   | .loop b => (match runJ T n (.code b E) with
     | some (.ex .nrm E1) => runJ T n (.code (.loop b) E1)
     | r => r)
   | .exit id => some (.ex (.exit id) E)
   | .ret => some (.ex .ret E)
   | .rfn .. => none
   | .cus .. => none

structure Tab.Ok (P : Program) (L : World → Prop) (T : Tab) : Prop where
 fn : ∀ f pc rs np, T.fn f = some (pc, rs, np) → ∃ fn, P.funcs[f]? = some fn ∧ chkFn P fn np pc rs = true
 ext : ∀ f ds r, T.ext f ds = some r → Con P L f ds r

variable {P : Program} {L : World → Prop} {T : Tab}

end Go.Pi

/-
 MORE LEMMAS OF EVALUATION: boxes that hold slices of the call's own; lists of structs as cells. Own work.
-/
namespace Go.Pi
open Go Go.RowKit

section ev3
variable {t s : Nat} {N : EP} {E : Env} {d : D} {n m : Nat} {cs ms : List D} {l : List UInt8}
theorem GB_eq : GB = 1000000 := rfl
theorem zap_nil : zap [] E = E := rfl
theorem zap_cons {a : Nat} {l : List Nat} : zap (a :: l) E = zap l (st1 E a .un) := rfl
theorem lgF_g {G : Nat} : lgF s (.gbox G) t N E = (G = GB + s ∧ N (st1 E t (.al (GB + s)))) := rfl
theorem lgF_b {w : Bool} : lgF s (.box w [d]) t N E = (d.isPure = true ∧ d.one = true ∧ N (st1 E t d)) := rfl
theorem sgOF_g {G e : Nat} {ks : List Nat} {w : Bool} : sgOF t ks (.gbox G) (.own w e n cs) N E = (t < GB ∧ ks.all (fun z => z != t && z != GB + t) = true ∧ N (zap ks (st1 (st1 E t (.gbox (GB + t))) (GB + t) (.own w e n cs)))) := by simp [sgOF, isBox1]
theorem sgOF_b {e : Nat} {ks : List Nat} {w : Bool} {z : D} : sgOF t ks (.box true [z]) (.own w e n cs) N E = (t < GB ∧ ks.all (fun z => z != t && z != GB + t) = true ∧ N (zap ks (st1 (st1 E t (.gbox (GB + t))) (GB + t) (.own w e n cs)))) := by simp [sgOF, isBox1]
theorem sgPF_g {G : Nat} {ks : List Nat} : sgPF t ks (.gbox G) d N E = (t < GB ∧ d.isPure = true ∧ d.one = true ∧ ks.all (fun z => z != t && z != GB + t) = true ∧ N (zap ks (st1 (st1 E t (.box true [d])) (GB + t) .un))) := by simp [sgPF, isBox1]
theorem sgPF_b {ks : List Nat} {z : D} : sgPF t ks (.box true [z]) d N E = (t < GB ∧ d.isPure = true ∧ d.one = true ∧ ks.all (fun z => z != t && z != GB + t) = true ∧ N (zap ks (st1 (st1 E t (.box true [d])) (GB + t) .un))) := by simp [sgPF, isBox1]
def captD (d : D) : Option D := match d with
 | .box _ cs => some (.pt cs)
 | .pt cs => some (.pt cs)
 | _ => none
theorem capt_eq {x : PX} : capt (lk E) x = captD (x.ev (lk E)) := rfl
theorem captD_box {w : Bool} : captD (.box w cs) = some (.pt cs) := rfl
theorem captD_pt : captD (.pt cs) = some (.pt cs) := rfl
theorem ldC_aggc : ldC true n (d :: cs) t N E = (n ≤ (d :: cs).length ∧ N (st1 E t (.agg ((d :: cs).take n)))) := ldC_agg
end ev3

/-! ### lists of structs of strings, of strings -/
/-- the cells of a list whose elements have the cells f -/
def rows {α : Type} (f : α → List D) (l : List α) : List D := l.flatMap f

theorem rows_cons {α : Type} {f : α → List D} {a : α} {l : List α} : rows f (a :: l) = f a ++ rows f l := rfl
theorem rows_snoc {α : Type} {f : α → List D} {l : List α} {a : α} : rows f (l ++ [a]) = rows f l ++ f a := by simp [rows]
theorem rows_length {α : Type} {f : α → List D} {sz : Nat} (hf : ∀ a, (f a).length = sz) (l : List α) : (rows f l).length = l.length * sz := by
 induction l with
 | nil => simp [rows]
 | cons a l ih => rw [rows_cons, List.length_append, ih, hf, List.length_cons, Nat.succ_mul]; omega
theorem rows_drop {α : Type} {f : α → List D} {sz : Nat} (hf : ∀ a, (f a).length = sz) : ∀ (k : Nat) (l : List α), (rows f l).drop (k * sz) = rows f (l.drop k)
 | 0, l => by simp
 | k + 1, [] => by simp [rows]
 | k + 1, a :: l => by
   rw [rows_cons, List.drop_succ_cons, Nat.succ_mul, Nat.add_comm, List.drop_append, List.drop_eq_nil_of_le (by rw [hf]; omega), hf, Nat.add_sub_cancel_left, List.nil_append]
   exact rows_drop hf k l
theorem rows_take {α : Type} {f : α → List D} {sz : Nat} (hf : ∀ a, (f a).length = sz) : ∀ (k : Nat) (l : List α), (rows f l).take (k * sz) = rows f (l.take k)
 | 0, l => by simp [rows]
 | k + 1, [] => by simp [rows]
 | k + 1, a :: l => by
   rw [rows_cons, List.take_succ_cons, rows_cons, Nat.succ_mul, Nat.add_comm, List.take_append, List.take_of_length_le (by rw [hf]; omega), hf, Nat.add_sub_cancel_left, rows_take hf k l]
theorem rows_at {α : Type} {f : α → List D} {sz : Nat} (hf : ∀ a, (f a).length = sz) {l : List α} {k : Nat} {a : α} (h : l[k]? = some a) : ∃ r, (rows f l).drop (k * sz) = f a ++ r := by
 obtain ⟨hk, rfl⟩ := List.getElem?_eq_some_iff.1 h
 rw [rows_drop hf, List.drop_eq_getElem_cons hk, rows_cons]
 exact ⟨_, rfl⟩
theorem cut_rows {α : Type} {f : α → List D} {sz : Nat} (hf : ∀ a, (f a).length = sz) {l : List α} {a b : Nat} : cut sz a b (rows f l) = rows f ((l.take b).drop a) := by
 rw [cut, rows_take hf, rows_drop hf]
/-- strings as cells -/
def sD (s : List UInt8) : List D := [.str s]
abbrev strs (l : List (List UInt8)) : List D := rows sD l
end Go.Pi
