import Derived.Test.YthfgjhnckegneaaGreatDoorSa
import Derived.RangeFuncBox
import Derived.RangeFuncLeaves
import Derived.Shelf.Abstract
import Derived.WalkKit
import Derived.OwnWalkIn
import Derived.TacticsInMore
import Derived.LoopNIn
import Derived.LoopIn
import Derived.Test.YthfgjhnckegneaaGreatDoorProg
namespace Go.Proofs
open Go Go.Pi Go.RowKit Go.Shelf
attribute [local go_sem] Oper.semAt_some

set_option maxRecDepth 100000 in
set_option maxHeartbeats 2000000 in
theorem back53 : IsBack Tryz.prog 53 true 3 := by
  intro nn l Bs bo J m cs W hm hJ hY h0
  obtain ⟨S, r, hp⟩ := hJ 0 W h0
  obtain ⟨v, hv, hsl⟩ := pt_head hp
  refine callsIn_of_wp Tryz.func53 rfl trivial ?_ rfl
  simp only [Tryz.ntmps53, List.size_toArray, List.length_cons, List.length_nil, Nat.reduceAdd, Nat.reduceSub, Array.replicate_succ, Array.replicate_zero, List.push_toArray, List.append_toArray, List.nil_append, List.cons_append]
  obtain ⟨ad, cap, rfl⟩ : ∃ ad cap, v = .slice ad m cap := by cases hsl <;> exact ⟨_, _, rfl⟩
  have hm2 : (m : Int) ≤ 9223372036854775807 := by cases hsl <;> simp_all [maxLen] <;> omega
  clear hsl hp
  gi_wp2
  gi_loopw [3] (fun i wr => ∃ k : Nat, k ≤ m ∧ i = .int .i64 ((m : Int) - 1 - k) ∧ J k wr) (fun i _ => ((intOf i) + 1).toNat)
  case atStart => exact ⟨0, Nat.zero_le _, by simp, h0⟩
  case round =>
    obtain ⟨k, hk, rfl, hJs⟩ := hrel
    by_cases hlt : k < m
    · obtain ⟨S2, r2, hp2⟩ := hJ k wr hJs
      obtain ⟨v2, hv2, hsl2⟩ := pt_head hp2
      cases hsl2 with
      | sl0 => omega
      | slN => omega
      | sl _ _ b off cap2 vs hl h1 hn hc hr hh =>
        have hj : ∀ i, i < 3 → (m - 1 - k) * 3 + i < vs.length := fun i hi => by omega
        have hjc : ∀ i, i < 3 → (m - 1 - k) * 3 + i < cs.length := fun i hi => by omega
        have hd : ∀ i (hi : i < 3), cs[(m - 1 - k) * 3 + i]? = some (cs[(m - 1 - k) * 3 + i]'(hjc i hi)) := fun i hi => List.getElem?_eq_getElem _
        have hx : ∀ i (hi : i < 3), vs[(m - 1 - k) * 3 + i]? = some (vs[(m - 1 - k) * 3 + i]'(hj i hi)) := fun i hi => List.getElem?_eq_getElem _
        have hcell0 := (hr _ _ (hx 0 (by omega))).2
        have hcell1 := (hr _ _ (hx 1 (by omega))).2
        have hcell2 := (hr _ _ (hx 2 (by omega))).2
        replace hcell0 : wr.cell? ⟨b, off + (m - 1 - k) * 3, none⟩ = some (vs[(m - 1 - k) * 3 + 0]'(hj 0 (by omega))) := hcell0
        replace hcell1 : wr.cell? ⟨b, off + (m - 1 - k) * 3 + 1, none⟩ = some (vs[(m - 1 - k) * 3 + 1]'(hj 1 (by omega))) := hcell1
        replace hcell2 : wr.cell? ⟨b, off + (m - 1 - k) * 3 + 2, none⟩ = some (vs[(m - 1 - k) * 3 + 2]'(hj 2 (by omega))) := hcell2
        have hone : ∀ i (hi : i < 3), (cs[(m - 1 - k) * 3 + i]'(hjc i hi)).one = true := fun i hi => h1 _ (List.mem_of_getElem? (hd i hi))
        have hones : ∀ d ∈ [cs[(m - 1 - k) * 3 + 0]'(hjc 0 (by omega)), cs[(m - 1 - k) * 3 + 1]'(hjc 1 (by omega)), cs[(m - 1 - k) * 3 + 2]'(hjc 2 (by omega))], d.one = true := by
          intro d hd'
          simp only [List.mem_cons, List.not_mem_nil, or_false] at hd'
          rcases hd' with h | h | h <;> rw [h]
          · exact hone 0 (by omega)
          · exact hone 1 (by omega)
          · exact hone 2 (by omega)
        have hag : Rep S2 wr (.agg [cs[(m - 1 - k) * 3 + 0]'(hjc 0 (by omega)), cs[(m - 1 - k) * 3 + 1]'(hjc 1 (by omega)), cs[(m - 1 - k) * 3 + 2]'(hjc 2 (by omega))])
            (.agg #[vs[(m - 1 - k) * 3 + 0]'(hj 0 (by omega)), vs[(m - 1 - k) * 3 + 1]'(hj 1 (by omega)), vs[(m - 1 - k) * 3 + 2]'(hj 2 (by omega))]) :=
          .agg _ [vs[(m - 1 - k) * 3 + 0]'(hj 0 (by omega)), vs[(m - 1 - k) * 3 + 1]'(hj 1 (by omega)), vs[(m - 1 - k) * 3 + 2]'(hj 2 (by omega))] rfl
            hones
            (Reps.cons (hh _ _ _ (hd 0 (by omega)) (hx 0 (by omega))) (Reps.cons (hh _ _ _ (hd 1 (by omega)) (hx 1 (by omega))) (Reps.cons (hh _ _ _ (hd 2 (by omega)) (hx 2 (by omega))) .nil))).2
        obtain ⟨fn, tmps, assign, body, hy, hR⟩ := hY k wr hlt hJs S2 _ _ (by
          rw [List.drop_eq_getElem_cons (show (m - 1 - k) * 3 < cs.length from hjc 0 (by omega)), List.drop_eq_getElem_cons (hjc 1 (by omega)), List.drop_eq_getElem_cons (hjc 2 (by omega))]
          simp only [ofCells, if_true, List.length_cons, List.take_succ_cons, List.take_zero]
          rw [if_pos (by omega)]
          rfl) hag
        have e1 : ((m - 1 - k : Nat) : Int) = (m : Int) - 1 - k := by omega
        have e2 : ((m : Int) - 1 - k).toNat = m - 1 - k := by omega
        rw [e1] at hy
        have ho0 := (hh _ _ _ (hd 0 (by omega)) (hx 0 (by omega))).oneCell (hone 0 (by omega))
        have ho1 := (hh _ _ _ (hd 1 (by omega)) (hx 1 (by omega))).oneCell (hone 1 (by omega))
        have ho2 := (hh _ _ _ (hd 2 (by omega)) (hx 2 (by omega))).oneCell (hone 2 (by omega))
        generalize vs[(m - 1 - k) * 3 + 0]'(hj 0 (by omega)) = x0 at hy hcell0 ho0
        generalize vs[(m - 1 - k) * 3 + 1]'(hj 1 (by omega)) = x1 at hy hcell1 ho1
        generalize vs[(m - 1 - k) * 3 + 2]'(hj 2 (by omega)) = x2 at hy hcell2 ho2
        clear hh hr hx hag
        gi_wp2
        refine hR.mono ?_
        rintro e W3 ⟨rfl, hJ3⟩
        gi_wp2
        go_roundw
        case rel => exact ⟨k + 1, by omega, by congr 1; omega, hJ3⟩
        case measure => simp [intOf]; omega
    · obtain rfl : k = m := by omega
      gi_wp2
      go_end0
      exact ⟨⟨_, rfl⟩, hJs⟩
end Go.Proofs
