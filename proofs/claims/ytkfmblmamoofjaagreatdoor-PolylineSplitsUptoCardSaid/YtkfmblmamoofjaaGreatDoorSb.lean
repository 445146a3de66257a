import Derived.Test.YtkfmblmamoofjaaGreatDoorPi
import Derived.RangeFuncBox
import Derived.RangeFuncLeaves
import Derived.Shelf.Abstract
import Derived.WalkKit
import Derived.OwnWalkIn
import Derived.TacticsInMore
import Derived.LoopNIn
import Derived.LoopIn
import Derived.Test.YtkfmblmamoofjaaGreatDoorProg
set_option linter.unusedVariables false
set_option linter.unusedSimpArgs false
namespace Go.Proofs
open Go Go.Pi Go.RowKit Go.Shelf
attribute [local go_sem] Oper.semAt_some

theorem pt_head {S : Nat → Nat → Prop} {W : World} {m : Nat} {cs r : List D} {a : Addr} (h : Rep S W (.pt (.sl m cs :: r)) (.pointer (some a))) :
  ∃ v, W.cell? a = some v ∧ Rep S W (.sl m cs) v := by
 cases h with
 | pt ds b off vs hl h1 hr h =>
   cases vs with
   | nil => simp at hl
   | cons v vs => exact ⟨v, by simpa using (hr 0 v rfl).2, h 0 _ v rfl rfl⟩

set_option maxRecDepth 100000 in
set_option maxHeartbeats 2000000 in
theorem back135 : IsBack Tryz.prog 135 false 1 := by
 intro nn l Bs bo J m cs W hm hJ hY h0
 obtain ⟨S, r, hp⟩ := hJ 0 W h0
 obtain ⟨v, hv, hsl⟩ := pt_head hp
 refine callsIn_of_wp Tryz.func135 rfl trivial ?_ rfl
 simp only [Tryz.ntmps135, List.size_toArray, List.length_cons, List.length_nil, Nat.reduceAdd, Nat.reduceSub, Array.replicate_succ, Array.replicate_zero, List.push_toArray, List.append_toArray, List.nil_append, List.cons_append]
 obtain ⟨ad, cap, rfl⟩ : ∃ ad cap, v = .slice ad m cap := by cases hsl <;> exact ⟨_, _, rfl⟩
 have hm2 : (m : Int) ≤ 9223372036854775807 := by cases hsl <;> simp_all [maxLen] <;> omega
 clear hsl hp
 gi_wp2
 gi_loopw [3] (fun i wr => ∃ k : Nat, k ≤ m ∧ i = .int .i64 ((m : Int) - 1 - k) ∧ J k wr) (fun i _ => ((intOf i) + 1).toNat)
 case atStart => exact ⟨0, Nat.zero_le _, by simp, h0⟩
 case round =>
  obtain ⟨k, hk, rfl, hJs⟩ := hrel
  by_cases hlt : k < m
  ·obtain ⟨S2, r2, hp2⟩ := hJ k wr hJs
   obtain ⟨v2, hv2, hsl2⟩ := pt_head hp2
   cases hsl2 with
   | sl0 => omega
   | slN => omega
   | sl _ _ b off cap2 vs hl h1 hn hc hr hh =>
     have hj : m - 1 - k < vs.length := by omega
     have hd : cs[m - 1 - k]? = some (cs[m - 1 - k]'(by omega)) := List.getElem?_eq_getElem (by omega)
     have hx : vs[m - 1 - k]? = some vs[m - 1 - k] := List.getElem?_eq_getElem hj
     have hcell := (hr _ _ hx).2
     have hone := h1 _ (List.mem_of_getElem? hd)
     obtain ⟨fn, tmps, assign, body, hy, hR⟩ := hY k wr hlt hJs S2 _ _ (by
      rw [Nat.mul_one, List.drop_eq_getElem_cons (by omega)]
      simp [ofCells, hone]
      try omega) (hh _ _ _ hd hx)
     have e1 : ((m - 1 - k : Nat) : Int) = (m : Int) - 1 - k := by omega
     have e2 : ((m : Int) - 1 - k).toNat = m - 1 - k := by omega
     rw [e1] at hy
     have ho := (hh _ _ _ hd hx).oneCell hone
     generalize vs[m - 1 - k] = x at hy hcell ho
     clear hh hr hx
     gi_wp2
     refine hR.mono ?_
     rintro e W3 ⟨rfl, hJ3⟩
     gi_wp2
     go_roundw
     case rel => exact ⟨k + 1, by omega, by congr 1; omega, hJ3⟩
     case measure => simp [intOf]; omega
  ·obtain rfl : k = m := by omega
   gi_wp2
   go_end0
   exact ⟨⟨_, rfl⟩, hJs⟩
end Go.Proofs
