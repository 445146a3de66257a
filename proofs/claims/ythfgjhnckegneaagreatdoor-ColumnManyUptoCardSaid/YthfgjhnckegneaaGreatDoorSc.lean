/-
  SEAT 22: slices.Grow of a nil slice of layers. Own work.
-/
import Derived.Test.YthfgjhnckegneaaGreatDoorPi
import Derived.Shelf.Abstract
import Derived.WalkKit
import Derived.OwnWalkIn
import Derived.TacticsInMore
import Derived.LoopNIn
import Derived.LoopIn
import Derived.BigCall
import Derived.BigGuard
import Derived.Test.YthfgjhnckegneaaGreatDoorProg
namespace Go.Proofs
open Go Go.Pi Go.RowKit Go.Shelf

theorem next0 {n : Nat} (h : 1 ≤ n) : Builtin.nextslicecap n 0 = n := by unfold Builtin.nextslicecap; rw [if_pos (by omega)]
theorem cap_lt {n : Nat} {t : Nat} (h : n ≤ 1000000) : n ≤ (Question.appendCap n 0 39).cut t ∧ (Question.appendCap n 0 39).cut t ≤ maxLen := by
  have e : (Question.appendCap n 0 39).cut t = n + t % (2 ^ 63 - n) := rfl
  have h1 : t % (2 ^ 63 - n) < 2 ^ 63 - n := Nat.mod_lt _ (by omega)
  rw [e]; unfold maxLen; omega

set_option maxRecDepth 100000 in
set_option maxHeartbeats 2000000 in
theorem Tryz.grow57 (n : Nat) (hn : n ≤ 1000000) (w : World) : Calls Tryz.prog 57 #[.slice none 0 0, .int .i64 n] w fun e w' => ∃ v, e = .returned v ∧ Below w.heap.size w w' ∧
    ((v = .slice none 0 0) ∨ ∃ cap arr, v = .slice (some ⟨w.heap.size, 0, none⟩) 0 cap ∧ w.heap.size < w'.heap.size ∧ w'.heap[w.heap.size]? = some (.cells arr 39 (0, 0)) ∧ cap ≤ maxLen ∧ arr.size = cap * 3) := by
  rcases Nat.eq_zero_or_pos n with h1 | h1
  · subst h1
    go_enter Tryz.func57, Tryz.ntmps57
    go_wp2
    go_ret
    exact ⟨_, rfl, Below.refl _ _, .inl rfl⟩
  · have hbytes : Tryz.t39.bytes = 48 := rfl
    have hnx := next0 h1
    go_enter Tryz.func57, Tryz.ntmps57
    go_wp2
    go_ret
    have hc := cap_lt (t := w.tape w.drawn (Question.appendCap n 0 39)) hn
    generalize (Question.appendCap n 0 39).cut (w.tape w.drawn (Question.appendCap n 0 39)) = cap at hc
    refine ⟨.slice (some ⟨w.heap.size, 0, none⟩) 0 cap, rfl, ((Below.refl _ w).alloc (Nat.le_refl _) _).drew, .inr ⟨cap, rfl, ?_, (Builtin.zeroCells #[Value.string { data := #[] }, Value.string { data := #[] }, Value.string { data := #[] }] n ++ Builtin.zeroCells #[Value.string { data := #[] }, Value.string { data := #[] }, Value.string { data := #[] }] (cap - n)), World.alloc_heap_new _ _, hc.2, ?_⟩⟩
    · show w.heap.size < (w.heap.push _).size
      rw [Array.size_push]; omega
    · rw [Array.size_append, size_zeroCells, size_zeroCells, ← Nat.add_mul]
      rw [show n + (cap - n) = cap by omega]
      rfl

theorem con57 {L : World → Prop} (n : Nat) (hn : n ≤ 1000000) : Con Tryz.prog L 57 [.sl 0 [.un], .int .i64 n] (.own true 39 0 []) := by
  refine ⟨⟨by kernel_rfl, rfl⟩, fun S w vs hS hL hv => ?_⟩
  obtain ⟨x, vs', rfl, h1, h2⟩ := hv.uncons
  obtain ⟨y, vs', rfl, h3, h4⟩ := h2.uncons
  have : vs' = [] := by cases vs' with | nil => rfl | cons _ _ => have := h4.1; simp at this
  subst this
  cases h3
  have hx : x = .slice none 0 0 := by
    generalize hd : D.sl 0 [.un] = d at h1
    cases h1 with
    | slN => rfl
    | sl n ds b off cap vs hl h1 hn hc hr h => cases hd; exact absurd (h1 .un (List.mem_singleton_self _)) (by simp [D.one])
    | _ => cases hd
  subst hx
  refine (Tryz.grow57 n hn w).mono ?_
  rintro e w' ⟨v, rfl, hb, h⟩
  rcases h with rfl | ⟨cap, arr, rfl, hs, hh, hc, ha⟩
  · exact ⟨_, rfl, hb, none, fun b hb => (by cases hb), .inl ⟨rfl, rfl, rfl, rfl⟩⟩
  · refine ⟨_, rfl, hb, some w.heap.size, fun b hb => (by cases hb; exact ⟨Nat.le_refl _, hs⟩), .inr ⟨w.heap.size, cap, arr, rfl, rfl, hh, Nat.zero_le _, hc, ?_, by simp, ?_, fun d hd => (by cases hd), ?_, fun h => (by cases h)⟩⟩
    · rw [ha, show Tryz.prog.cellsOf 39 = 3 by kernel_rfl]
    · have e0 : arr.toList.take (0 * Tryz.prog.cellsOf 39) = [] := by rw [Nat.zero_mul]; rfl
      rw [e0]; exact .nil
    · rintro j (h | ⟨h1, h2, h3⟩)
      · exact absurd (hS _ _ h) (Nat.lt_irrefl _)
      · exact ⟨(h3 rfl).1, (h3 rfl).2⟩
end Go.Proofs
