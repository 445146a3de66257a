/-
  LISTS OF INTEGERS AS CELLS. Own work.
-/
import Derived.Test.YthfgjhnckegneaaGreatDoorPiW
namespace Go.Pi
open Go Go.RowKit

def ints (k : IntKind) (l : List Int) : List D := l.map (.int k)
theorem ints_nil {k : IntKind} : ints k [] = [] := rfl
theorem ints_length {k : IntKind} {l : List Int} : (ints k l).length = l.length := by simp [ints]
theorem ints_app {k : IntKind} {l m : List Int} : ints k l ++ ints k m = ints k (l ++ m) := by simp [ints]
theorem ints_snoc {k : IntKind} {l : List Int} {x : Int} : ints k l ++ [.int k x] = ints k (l ++ [x]) := by simp [ints]
theorem ints_one {k : IntKind} {x : Int} : [.int k x] = ints k [x] := rfl
theorem ints_take {k : IntKind} {l : List Int} {n : Nat} : (ints k l).take n = ints k (l.take n) := by simp [ints, List.map_take]
theorem ints_drop {k : IntKind} {l : List Int} {n : Nat} : (ints k l).drop n = ints k (l.drop n) := by simp [ints, List.map_drop]
theorem cut_ints {k : IntKind} {l : List Int} {a b : Nat} : cut 1 a b (ints k l) = ints k ((l.take b).drop a) := by simp [cut, ints, List.map_take, List.map_drop]

theorem ldC_ints {k : IntKind} {l : List Int} {j t : Nat} {N : EP} {E : Env} : ldC false 1 (List.take 1 (List.drop j (ints k l))) t N E = (j < l.length ∧ N (st1 E t (.int k (l.getD j 0)))) := by
  unfold ldC
  by_cases h : j < l.length
  · have e : List.take 1 (List.drop j (ints k l)) = [.int k (l.getD j 0)] := by
      rw [ints_drop, ints_take]
      rw [List.drop_eq_getElem_cons h]
      simp only [List.take_succ_cons, List.take_zero, ints, List.map_cons, List.map_nil, List.getD_eq_getElem?_getD, List.getElem?_eq_getElem h, Option.getD_some]
    rw [e]
    simp [ofCells, D.one, h]
  · have e : List.take 1 (List.drop j (ints k l)) = [] := by
      rw [ints_drop, List.drop_eq_nil_of_le (by omega)]; rfl
    rw [e]
    simp [ofCells, h]

theorem ldC_ints' {k : IntKind} {l : List Int} {j t : Nat} {N : EP} {E : Env} : ldC false 1 (List.drop j (ints k l)) t N E = (j < l.length ∧ N (st1 E t (.int k (l.getD j 0)))) := by
  rw [← ldC_ints]
  unfold ldC
  cases hq : List.drop j (ints k l) with
  | nil => rfl
  | cons d r => simp [ofCells]

theorem stG_ints {k : IntKind} {l : List Int} {j n m s t : Nat} {x : Int} {N : EP} {E : Env} : stG 1 s j (.own true n m (ints k l)) (.int k x) N E = (j < l.length ∧ N (st1 E s (.own true n m (ints k (l.set j x))))) := by
  simp only [stG, D.wr, D.cells, D.mem, D.isPure, D.setMem, List.length_singleton, List.all_cons, List.all_nil, D.one, Bool.and_self, true_and, ints_length]
  by_cases h : j < l.length
  · have e : splice (ints k l) j [.int k x] = ints k (l.set j x) := by
      simp only [splice, List.length_singleton, ints_take, ints_drop]
      rw [List.set_eq_take_append_cons_drop, if_pos h]
      simp [ints]
    rw [e]
    simp [h, show j + 1 ≤ l.length by omega]
  · simp [h, show ¬ j + 1 ≤ l.length by omega]

section ev2
variable {t s : Nat} {N : EP} {E : Env} {d : D} {n m : Nat} {cs ms : List D} {l : List UInt8}
theorem appF_oo {e e' e2 sz bytes : Nat} {u : Option Nat} {w w2 : Bool} : appF e sz bytes s u (.own w e' n cs) (.own w2 e2 m ms) t N E = (e' = e ∧ ms.length = m * sz ∧ (n + m) * bytes ≤ 140737488355328 ∧ n + m ≤ maxLen ∧
    N (match u with | some u => st1 (st1 (st1 E t (.own w e (n + m) (cs ++ ms))) s .un) u .un | none => st1 (st1 E t (.own w e (n + m) (cs ++ ms))) s .un)) := by
  exact propext ⟨fun ⟨m', ms', h, r⟩ => by cases h; exact r, fun h => ⟨m, ms, rfl, h⟩⟩
theorem appF_os {e e' sz bytes : Nat} {u : Option Nat} {w : Bool} : appF e sz bytes s u (.own w e' n cs) (.sl m ms) t N E = (e' = e ∧ ms.length = m * sz ∧ (n + m) * bytes ≤ 140737488355328 ∧ n + m ≤ maxLen ∧
    N (match u with | some u => st1 (st1 (st1 E t (.own w e (n + m) (cs ++ ms))) s .un) u .un | none => st1 (st1 E t (.own w e (n + m) (cs ++ ms))) s .un)) := by
  exact propext ⟨fun ⟨m', ms', h, r⟩ => by cases h; exact r, fun h => ⟨m, ms, rfl, h⟩⟩
def slc2 (sz s n : Nat) (cs : List D) (lo hi : Option Int) (g : D) (t : Nat) (N : EP) (E : Env) : Prop := match lo, hi with
  | some l, some h => 0 ≤ l ∧ l ≤ h ∧ h ≤ n ∧ n * sz = cs.length ∧ N (st1 (st1 E t (.sl (h.toNat - l.toNat) (cut sz l.toNat h.toNat cs))) s g.dull)
  | _, _ => False
theorem slcF_o {sz e : Nat} {w : Bool} {lo hi : Option D} {g : D} : slcF sz s (.own w e n cs) lo hi g t N E = slc2 sz s n cs (boundF 0 lo) (boundF n hi) g t N E := by
  unfold slcF slc2
  cases h1 : boundF 0 lo with
  | none => exact propext ⟨fun ⟨n', cs', h, l, e0, e1, e2, _⟩ => (by cases e2), fun h => h.elim⟩
  | some a => cases h2 : boundF n hi with
    | none => exact propext ⟨fun ⟨n', cs', h, l, e0, e1, e2, _⟩ => (by cases e0; rw [h2] at e1; cases e1), fun h => h.elim⟩
    | some b => exact propext ⟨fun ⟨n', cs', h, l, e0, e1, e2, r⟩ => (by cases e0; rw [h2] at e1; cases e1; cases e2; exact r), fun r => ⟨n, cs, b, a, rfl, h2, rfl, r⟩⟩
theorem slcF_s {sz : Nat} {lo hi : Option D} {g : D} : slcF sz s (.sl n cs) lo hi g t N E = slc2 sz s n cs (boundF 0 lo) (boundF n hi) g t N E := by
  unfold slcF slc2
  cases h1 : boundF 0 lo with
  | none => exact propext ⟨fun ⟨n', cs', h, l, e0, e1, e2, _⟩ => (by cases e2), fun h => h.elim⟩
  | some a => cases h2 : boundF n hi with
    | none => exact propext ⟨fun ⟨n', cs', h, l, e0, e1, e2, _⟩ => (by cases e0; rw [h2] at e1; cases e1), fun h => h.elim⟩
    | some b => exact propext ⟨fun ⟨n', cs', h, l, e0, e1, e2, r⟩ => (by cases e0; rw [h2] at e1; cases e1; cases e2; exact r), fun r => ⟨n, cs, b, a, rfl, h2, rfl, r⟩⟩
theorem slc2_eq {sz : Nat} {a b : Int} {g : D} : slc2 sz s n cs (some a) (some b) g t N E = (0 ≤ a ∧ a ≤ b ∧ b ≤ n ∧ n * sz = cs.length ∧ N (st1 (st1 E t (.sl (b.toNat - a.toNat) (cut sz a.toNat b.toNat cs))) s g.dull)) := rfl
def slS2 (c : List UInt8) (lo hi : Option Int) (t : Nat) (N : EP) (E : Env) : Prop := match lo, hi with
  | some l, some h => 0 ≤ l ∧ l ≤ h ∧ h ≤ c.length ∧ N (st1 E t (.str ((c.take h.toNat).drop l.toNat)))
  | _, _ => False
theorem slSF_eq {lo hi : Option D} : slSF (.str l) lo hi t N E = slS2 l (boundF 0 lo) (boundF l.length hi) t N E := by
  unfold slSF slS2
  cases h1 : boundF 0 lo <;> cases h2 : boundF l.length hi <;> simp [h2]
theorem slS2_eq {a b : Int} : slS2 l (some a) (some b) t N E = (0 ≤ a ∧ a ≤ b ∧ b ≤ l.length ∧ N (st1 E t (.str ((l.take b.toNat).drop a.toNat)))) := rfl
theorem bldF_eq : bldF (some cs) t N E = N (st1 E t (.agg cs)) := by simp [bldF]
theorem bldSF_eq {e : Nat} : bldSF e n (some cs) t N E = N (st1 E t (.own true e n cs)) := by simp [bldSF]
theorem mkfF_eq {f : FuncId} {dl : List (Nat × D)} : mkfF f (some cs) dl t N E = N (sets (st1 E t (.clo f cs)) dl) := by simp [mkfF]
def extO (d : Option D) (t : Nat) (N : EP) (E : Env) : Prop := match d with | some d => putF d t N E | none => False
theorem extF_eq {i : Nat} : extF i (.tup cs) t N E = extO cs[i]? t N E := by
  unfold extF extO
  cases h : cs[i]? with
  | none => exact propext ⟨fun ⟨d, e, _⟩ => by (simp only [h] at e; cases e), fun h => h.elim⟩
  | some d => exact propext ⟨fun ⟨d', e, r⟩ => by (simp only [h] at e; cases e; exact r), fun r => ⟨d, h, r⟩⟩
theorem extO_eq : extO (some d) t N E = putF d t N E := rfl
theorem ldC_agg : ldC true n cs t N E = (n ≤ cs.length ∧ N (st1 E t (.agg (cs.take n)))) := by
  unfold ldC ofCells
  by_cases h : n ≤ cs.length <;> simp [h]
theorem ldC_cons : ldC false 1 (d :: cs) t N E = (d.one = true ∧ N (st1 E t d)) := by
  have e : ofCells false 1 (d :: cs) = if d.one = true then some d else none := by simp [ofCells]
  unfold ldC
  rw [e]
  cases h : d.one
  · exact propext ⟨fun ⟨d', e, _⟩ => (by cases e), fun h => (by cases h.1)⟩
  · exact propext ⟨fun ⟨d', e, r⟩ => (by cases e; exact ⟨rfl, r⟩), fun r => ⟨d, rfl, r.2⟩⟩
theorem cbsF_s : cbsF (.sl n (byD l)) t N E = (n = l.length ∧ N (st1 E t (.str l))) := by
  simp only [cbsF, byD, List.length_map]
  refine propext (and_congr_right fun _ => ⟨fun ⟨l', h1, h2⟩ => ?_, fun h => ⟨l, rfl, h⟩⟩)
  have : bytesOf (byD l') = bytesOf (byD l) := by unfold byD; rw [h1]
  rw [bytesOf_byD, bytesOf_byD] at this
  cases this; exact h2
theorem cbsF_o {w : Bool} {e : Nat} : cbsF (.own w e n (byD l)) t N E = (n = l.length ∧ N (st1 E t (.str l))) := cbsF_s
theorem stG_box {off : Nat} {v : D} : stG n s off (.box true cs) v N E = (v.cells.length = n ∧ off + n ≤ cs.length ∧ v.cells.all D.one = true ∧ v.isPure = true ∧ N (st1 E s (.box true (splice cs off v.cells)))) := by
  simp [stG, D.wr, D.mem, D.setMem]
theorem fillD_nil : fillD cs [] = some cs := rfl
theorem fillD_cons {off : Nat} {ps : List (Nat × Nat × D)} : fillD cs ((off, n, d) :: ps) = if d.cells.length = n ∧ off + n ≤ cs.length ∧ d.cells.all D.one = true ∧ d.isPure = true then fillD (splice cs off d.cells) ps else none := rfl
theorem maxLen_eq : maxLen = 9223372036854775807 := rfl
theorem if_tt {a b : D} : (if True then a else b) = a := if_pos trivial
end ev2
end Go.Pi
