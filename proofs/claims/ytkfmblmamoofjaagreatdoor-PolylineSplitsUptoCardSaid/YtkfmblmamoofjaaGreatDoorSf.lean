/-
 ARITHMETIC: integer.close: a walk by hand (strings.Builder in a range over a function). Own work.
-/
import Derived.Test.YtkfmblmamoofjaaGreatDoorSd
import Derived.Test.YtkfmblmamoofjaaGreatDoorEb
import Derived.Test.YtkfmblmamoofjaaGreatDoorSe
import Derived.Test.YtkfmblmamoofjaaGreatDoorEd
import Derived.Shelf.Strings.BuilderK
import Derived.RangeFuncBox
import Derived.RangeFuncLeaves
import Derived.WalkKit
import Derived.OwnWalkIn
import Derived.TacticsInMore
import Derived.LoopNIn
import Derived.LoopIn
import Derived.Test.YtkfmblmamoofjaaGreatDoorPj
import Derived.Test.YtkfmblmamoofjaaGreatDoorSc
set_option linter.unusedVariables false
set_option linter.unusedSimpArgs false
namespace Go.Proofs
open Go Go.Pi Go.RowKit Go.Shelf Go.Ar
theorem WF_round (rd : Option Nat) : (WF rd).round = rd := rfl
attribute [local go_sem] Oper.semAt_some WF_round

theorem isF_kept {T e : TypeId} {B b : Nat} {bs : List Value} {w w' : World} (h : Lib.IsBuilderF T e B b bs w) (hk : ∀ (k : Nat) (o : Obj), w.heap[k]? = some o → o.isCells = true → w'.heap[k]? = some o) : Lib.IsBuilderF T e B b bs w' := by
 have at1 : ∀ p, Lib.BuilderAtF T e B b p bs w → Lib.BuilderAtF T e B b p bs w' := by
  rintro p ⟨hB, v, hb, hown, hne⟩
  refine ⟨hB, v, hk _ _ hb rfl, ⟨hown.1, ?_⟩, hne⟩
  rcases hown.2 with h | ⟨g, cap, cur, fz, h1, h2, h3, h4⟩
  ·exact .inl h
  ·exact .inr ⟨g, cap, cur, fz, h1, h2, hk _ _ h3 rfl, h4⟩
 exact h.elim (fun h => .inl (at1 _ h)) (fun h => .inr (at1 _ h))

/-- the walk's world: the number's box, the iterator's box, the builder -/
structure Bst (w : World) (m : Bool) (sl : Value) (tn tp tb e : TypeId) (q : Nat) (l : List UInt8) (W : World) : Prop where
 below : Below w.heap.size w W
 box : W.heap[w.heap.size]? = some (.cells #[.bool m, sl] tn (0, 0))
 it : W.heap[q]? = some (.cells #[sl] tp (0, 0))
 bld : Lib.IsBuilderF tb e w.heap.size (w.heap.size + 1) (Lib.byteCells l) W

theorem Bst.kept {w : World} {m : Bool} {sl : Value} {tn tp tb e : TypeId} {q : Nat} {l : List UInt8} {W W' : World} (h : Bst w m sl tn tp tb e q l W) (hb : Below w.heap.size w W') (hk : ∀ (k : Nat) (o : Obj), W.heap[k]? = some o → o.isCells = true → W'.heap[k]? = some o) : Bst w m sl tn tp tb e q l W' :=
 ⟨hb, hk _ _ h.box rfl, hk _ _ h.it rfl, isF_kept h.bld hk⟩

theorem Bst.put {w : World} {m : Bool} {sl : Value} {tn tp tb e : TypeId} {q : Nat} {l : List UInt8} {W : World} (h : Bst w m sl tn tp tb e q l W) {j : Nat} {o o' : Obj} (hj : w.heap.size ≤ j) (ho : W.heap[j]? = some o) (hc : o.isCells = false) : Bst w m sl tn tp tb e q l (W.putObj j o') := by
 refine h.kept ⟨h.below.os, h.below.tape, h.below.output, ?_, fun k hk => ?_⟩ fun k x hk hx => ?_
 ·have := h.below.size
  simpa [World.putObj] using this
 ·rw [World.putObj_heap_other (by omega)]; exact h.below.block k hk
 ·rw [World.putObj_heap_other (fun e => by subst e; rw [ho] at hk; cases hk; rw [hx] at hc; cases hc)]; exact hk

theorem Bst.below2 {w : World} {m : Bool} {sl : Value} {tn tp tb e : TypeId} {q : Nat} {l : List UInt8} {W W' : World} (h : Bst w m sl tn tp tb e q l W) (hb : Below W.heap.size W W') : Bst w m sl tn tp tb e q l W' := by
 refine h.kept (h.below.trans (hb.mono h.below.size)) fun k x hk _ => ?_
 rw [hb.block k (Array.getElem?_eq_some_iff.1 hk).1]; exact hk

/-- one write -/
theorem Bst.write {w : World} {m : Bool} {sl : Value} {tn tp tb e : TypeId} {q : Nat} {l : List UInt8} {W W' : World} (h : Bst w m sl tn tp tb e q l W) (hq : q ≠ w.heap.size + 1) (h1 : tn ≠ e) (h2 : tp ≠ e)
  {s : List UInt8} {p : Value} (hp : p = .pointer (some ⟨w.heap.size + 1, 0, none⟩)) (hB : Lib.BuilderAtF tb e w.heap.size (w.heap.size + 1) p (Lib.byteCells l ++ Lib.byteCells s) W') (hb : Below w.heap.size W W') (hk : Lib.OthersKept e (some (w.heap.size + 1)) W W') :
  Bst w m sl tn tp tb e q (l ++ s) W' := by
 subst hp
 refine ⟨h.below.trans hb, hk _ _ h.box (by simp) (fun c fz hc => h1 (by cases hc; rfl)), hk _ _ h.it (by simpa using hq) (fun c fz hc => h2 (by cases hc; rfl)), .inr ?_⟩
 have : Lib.byteCells (l ++ s) = Lib.byteCells l ++ Lib.byteCells s := by simp [Lib.byteCells]
 rw [this]; exact hB
theorem keeps_others {e : TypeId} {b : Nat} {W W' : World} (hk : Lib.OthersKept e (some b) W W') {c : Array Value} {t : TypeId} {fz : Nat × Nat} (hb : W.heap[b]? = some (.cells c t fz)) : Keeps W W' := fun k o ho hc =>
 hk k o ho (fun e => by cases e; rw [hb] at ho; cases ho; cases hc) (fun c fz hc2 => by subst hc2; cases hc)
theorem keeps_below {W W' : World} (hb : Below W.heap.size W W') : Keeps W W' := fun k o ho _ => by
 rw [hb.block k (Array.getElem?_eq_some_iff.1 ho).1]; exact ho
theorem bld_cells {T e : TypeId} {B b : Nat} {bs : List Value} {w : World} (h : Lib.IsBuilderF T e B b bs w) : ∃ c, w.heap[b]? = some (.cells c T (0, 0)) := by
 rcases h with ⟨_, v, hb, _⟩ | ⟨_, v, hb, _⟩ <;> exact ⟨_, hb⟩

theorem zeros_ext {k : Nat} (h : k ≤ 9) : ({ data := #[48, 48, 48, 48, 48, 48, 48, 48, 48] } : ByteArray).extract k 9 = ⟨(List.replicate (9 - k) 48).toArray⟩ := by
 have : ∀ i : Fin 10, ({ data := #[48, 48, 48, 48, 48, 48, 48, 48, 48] } : ByteArray).extract i.val 9 = ⟨(List.replicate (9 - i.val) 48).toArray⟩ := by decide +kernel
 exact this ⟨k, by omega⟩
theorem keeps_trans {A B C : World} (h : Keeps A B) (k : Keeps B C) : Keeps A C := fun i o hi hc => k i o (h i o hi hc) hc
theorem below_put {B : Nat} {w W : World} (h : Below B w W) {j : Nat} (hj : B ≤ j) (o : Obj) : Below B w (W.putObj j o) := by
 refine ⟨h.os, h.tape, h.output, ?_, fun k hk => ?_⟩
 ·have := h.size
  simpa [World.putObj] using this
 ·rw [World.putObj_heap_other (by omega)]; exact h.block k hk
theorem dd_len_pcs (n k : Nat) (h : (pcs n).length ≤ k) (hk : 0 < k) : (dd n).length ≤ 9 * k := by
 refine dd_len_le (by omega) ?_
 have h1 : n < 1000000000 ^ k := Nat.lt_of_lt_of_le (pcs_lt n) (Nat.pow_le_pow_right (by decide) h)
 rw [Nat.pow_mul]; exact h1
/-- the digits of the upper k pieces -/
def topT (n k : Nat) : List UInt8 := if k = 0 then [] else dd (n / 1000000000 ^ ((pcs n).length - k))
theorem topT_len (n k : Nat) (h : (pcs n).length ≤ 90000) : (topT n k).length ≤ 810000 := by
 unfold topT
 split
 ·simp
 ·refine dd_len_pcs _ 90000 ?_ (by decide)
  exact Nat.le_trans (pcs_len_mono (Nat.div_le_self _ _)) h
theorem topT_all {n : Nat} (h : 0 < n) : topT n (pcs n).length = dd n := by
 unfold topT; rw [if_neg (by have := pcs_len_pos h; omega), Nat.sub_self, Nat.pow_zero, Nat.div_one]
theorem topT_succ {n k : Nat} (h : 0 < n) (hk : k < (pcs n).length) : topT n (k + 1) = topT n k ++ (if k = 0 then [] else List.replicate (9 - (dd (n / 1000000000 ^ ((pcs n).length - 1 - k) % 1000000000)).length) 48) ++ dd (n / 1000000000 ^ ((pcs n).length - 1 - k) % 1000000000) := by
 unfold topT
 rw [if_neg (by omega), show (pcs n).length - (k + 1) = (pcs n).length - 1 - k by omega]
 by_cases hk0 : k = 0
 ·subst hk0
  simp only [if_true, Nat.sub_zero, List.nil_append]
  rw [Nat.mod_eq_of_lt (pcs_top h).2.2]
 ·rw [if_neg hk0, if_neg hk0]
  have e : n / 1000000000 ^ ((pcs n).length - 1 - k) = n / 1000000000 ^ ((pcs n).length - k) * 1000000000 + n / 1000000000 ^ ((pcs n).length - 1 - k) % 1000000000 := by
   rw [show (pcs n).length - k = (pcs n).length - 1 - k + 1 by omega, Nat.pow_succ, ← Nat.div_div_eq_div_mul, Nat.mul_comm]
   exact (Nat.div_add_mod _ _).symm
  have hp : 0 < n / 1000000000 ^ ((pcs n).length - k) := by
   refine Nat.div_pos ?_ (Nat.pow_pos (by decide))
   refine Nat.le_trans (Nat.pow_le_pow_right (by decide) ?_) (pcs_le h)
   omega
  conv => lhs; rw [e]
  rw [show (1000000000 : Nat) = 10 ^ (8 + 1) from rfl] at *
  rw [dec_pad hp (Nat.mod_lt _ (by decide)), List.append_assoc]
  rfl

set_option maxRecDepth 100000 in
set_option maxHeartbeats 2000000 in
theorem Tryz.close (m : Bool) (n : Nat) (hn : (pcs n).length ≤ 90000) :
  Con Tryz.prog Tryz.L 87 [.agg [.bool m, num n]] (.str (if n = 0 then [48] else (if m then [45] else []) ++ Lib.decDigits n)) := by
 refine ⟨⟨by kernel_rfl, rfl⟩, fun S w vs hS hL hv => ?_⟩
 obtain ⟨x, vs', rfl, hx, h2⟩ := hv.uncons
 have : vs' = [] := by cases vs' with | nil => rfl | cons _ _ => have := h2.1; simp at this
 subst this
 clear h2 hv
 obtain ⟨v1, rfl, hs⟩ : ∃ v1, x = .agg #[.bool m, v1] ∧ Rep S w (num n) v1 := by
  cases hx with
  | agg ds vs hl h1 h =>
    match vs, hl with
    | [a, b], _ =>
      have ha := h 0 _ _ rfl rfl
      have hb := h 1 _ _ rfl rfl
      cases ha
      exact ⟨b, rfl, hb⟩
 obtain ⟨ad, cap, rfl⟩ : ∃ ad cap, v1 = .slice ad (pcs n).length cap := by
  have hs' : ∀ k cs, Rep S w (.sl k cs) v1 → ∃ ad cap, v1 = .slice ad k cap := fun k cs h => by cases h <;> exact ⟨_, _, rfl⟩
  exact hs' _ _ hs
 clear hx
 obtain ⟨R, hR⟩ : ∃ R, (if n = 0 then [48] else (if m then [45] else []) ++ Lib.decDigits n) = R := ⟨_, rfl⟩
 rw [hR]
 refine CallsIn.calls (F := Fence.wide) (n := 1) (callsIn_of_wp_marks Tryz.func87 rfl trivial ?_) (fun k d e => by cases e)
 simp only [Tryz.ntmps87, List.size_toArray, List.length_cons, List.length_nil, Nat.reduceAdd, Nat.reduceSub, Array.replicate_succ, Array.replicate_zero, List.push_toArray, List.append_toArray, List.nil_append, List.cons_append]
 have mixed : Tryz.prog.follows .mixedOrders = true := by kernel_rfl
 have t0 := Tryz.underlying117; have a0 := Tryz.isAgg117; have z0 := Tryz.sizeOf117; have v0 := Tryz.zeroValue117; have u0 := run_underlying Tryz.underlying117
 have t1 := Tryz.underlying115; have a1 := Tryz.isAgg115; have z1 := Tryz.sizeOf115; have v1 := Tryz.zeroValue115; have u1 := run_underlying Tryz.underlying115
 have t2 := Tryz.underlying70; have a2 := Tryz.isAgg70; have z2 := Tryz.sizeOf70; have v2 := Tryz.zeroValue70; have u2 := run_underlying Tryz.underlying70
 have t3 := Tryz.underlying149; have a3 := Tryz.isAgg149; have z3 := Tryz.sizeOf149; have v3 := Tryz.zeroValue149; have u3 := run_underlying Tryz.underlying149
 have t4 := Tryz.underlying4; have a4 := Tryz.isAgg4; have z4 := Tryz.sizeOf4; have v4 := Tryz.zeroValue4; have u4 := run_underlying Tryz.underlying4
 have t5 := Tryz.underlying3; have a5 := Tryz.isAgg3; have z5 := Tryz.sizeOf3; have v5 := Tryz.zeroValue3; have u5 := run_underlying Tryz.underlying3
 have t6 := Tryz.underlying107; have a6 := Tryz.isAgg107; have z6 := Tryz.sizeOf107; have v6 := Tryz.zeroValue107; have u6 := run_underlying Tryz.underlying107
 have t7 := Tryz.underlying9; have a7 := Tryz.isAgg9; have z7 := Tryz.sizeOf9; have v7 := Tryz.zeroValue9; have u7 := run_underlying Tryz.underlying9
 have t8 := Tryz.underlying5; have a8 := Tryz.isAgg5; have z8 := Tryz.sizeOf5; have v8 := Tryz.zeroValue5; have u8 := run_underlying Tryz.underlying5
 have t9 := Tryz.underlying146; have a9 := Tryz.isAgg146; have z9 := Tryz.sizeOf146; have v9 := Tryz.zeroValue146; have u9 := run_underlying Tryz.underlying146
 have t10 := Tryz.underlying136; have a10 := Tryz.isAgg136; have z10 := Tryz.sizeOf136; have v10 := Tryz.zeroValue136; have u10 := run_underlying Tryz.underlying136
 have t11 := Tryz.underlying143; have a11 := Tryz.isAgg143; have z11 := Tryz.sizeOf143; have v11 := Tryz.zeroValue143; have u11 := run_underlying Tryz.underlying143
 have e143 : ∀ args w, (callFunc 114 args).run Tryz.prog w = .ok (.enter 114 args) w := enters_of Tryz.func114 (by kernel_rfl) rfl
 have e144 : ∀ args w, (callFunc 112 args).run Tryz.prog w = .ok (.enter 112 args) w := enters_of Tryz.func112 (by kernel_rfl) rfl
 have e145 : ∀ args w, (callFunc 115 args).run Tryz.prog w = .ok (.enter 115 args) w := enters_of Tryz.func115 (by kernel_rfl) rfl
 have e146 : ∀ args w, (callFunc 116 args).run Tryz.prog w = .ok (.enter 116 args) w := enters_of Tryz.func116 (by kernel_rfl) rfl
 have e147 : ∀ args w, (callFunc 117 args).run Tryz.prog w = .ok (.enter 117 args) w := enters_of Tryz.func117 (by kernel_rfl) rfl
 by_cases hn0 : (pcs n).length = 0
 ·have h0 : n = 0 := by
   rcases Nat.eq_zero_or_pos n with h | h
   ·exact h
   ·have := pcs_len_pos h; omega
  rw [if_pos h0] at hR
  subst hR
  rw [hn0]
  gi_wp2
  exact ⟨.string ⟨#[48]⟩, by simp [results, Sem.run_pure, go_sem], _, rfl, (Below.refl _ _).alloc (Nat.le_refl _) _, .str [48] (by decide)⟩
 have h0 : ¬n = 0 := fun h => hn0 (by rw [h, pcs_zero]; rfl)
 rw [if_neg h0] at hR
 have hlb : (((pcs n).length : Int) == 0) = false := by rw [beq_eq_false_iff_ne]; omega
 have c144 : ∀ (W : World) (a : Option Addr) (k c : Nat), Calls Tryz.prog 112 #[.slice a k c] W fun e w' => e = .returned (.func (.func 135) #[] #[.pointer (some ⟨W.heap.size, 0, none⟩)]) ∧ w' = W.alloc (.cells #[.slice a k c] 115) := by
  intro W a k c
  go_enter Tryz.func112, Tryz.ntmps112
  go_wp2
  go_ret
  exact ⟨rfl, rfl⟩
 have hW0 : Below w.heap.size w ((w.alloc (.cells #[.bool m, .slice ad (pcs n).length cap] 117)).alloc (.cells #[.pointer none, .slice none 0 0] 149)) := ((Below.refl _ _).alloc (Nat.le_refl _) _).alloc (by simp) _
 have hF0 : Lib.IsBuilderF 149 5 w.heap.size (w.heap.size + 1) (Lib.byteCells []) ((w.alloc (.cells #[.bool m, .slice ad (pcs n).length cap] 117)).alloc (.cells #[.pointer none, .slice none 0 0] 149)) := by
  refine .inl ⟨by omega, .slice none 0 0, ?_, World.ownsRowF_nil _ _ _ _, by simp [Value.ownBlock]⟩
  have := World.alloc_heap_new (w.alloc (.cells #[.bool m, .slice ad (pcs n).length cap] 117)) (.cells #[.pointer none, .slice none 0 0] 149)
  rwa [World.size_alloc] at this
 have hB0 : ((w.alloc (.cells #[.bool m, .slice ad (pcs n).length cap] 117)).alloc (.cells #[.pointer none, .slice none 0 0] 149)).heap[w.heap.size]? = some (.cells #[.bool m, .slice ad (pcs n).length cap] 117 (0, 0)) :=
  (Below.heap_alloc _ _ _ (by simp)).trans (World.alloc_heap_new w _)
 obtain ⟨sg, hsg⟩ : ∃ sg : List UInt8, (if m then [45] else []) = sg := ⟨_, rfl⟩
 rw [hsg] at hR
 have hsl : sg.length ≤ 1 := by rw [← hsg]; cases m <;> simp
 cases m
 ·gi_wp2
  generalize (w.alloc (.cells #[.bool false, .slice ad (pcs n).length cap] 117)).alloc (.cells #[.pointer none, .slice none 0 0] 149) = W3 at *
  obtain rfl : sg = [] := hsg.symm
  refine ⟨trivial, CallsIn.mono ((callsIn_wide (n := 0)).2 (c144 W3 ad _ cap)) ?_⟩
  rintro e W4 ⟨rfl, rfl⟩
  gi_wp2
  have hpos : 0 < n := Nat.pos_of_ne_zero h0
  have hq0 : W3.heap.size ≠ w.heap.size + 1 := fun e => by
   obtain ⟨c, hc⟩ := bld_cells hF0
   rw [Array.getElem?_eq_none (by omega)] at hc; cases hc
  have hle := hW0.size
  refine wpIn_back (gf := 135) (ag := false) (sz := 1) back135 (m := (pcs n).length) (cs := ints .u64 (pcs n)) (by rw [ints_length, Nat.mul_one]) rfl (by kernel_rfl)
   (fun k W => k ≤ (pcs n).length ∧ Bst w false (.slice ad (pcs n).length cap) 117 115 149 5 W3.heap.size ([] ++ topT n k) W) ?hI ?hIa ?hp ?h0 ?hround ?hdone
  case hI =>
   rintro k W j o o' ⟨hk, hb⟩ hj ho hc _
   rw [World.size_alloc] at hj
   exact ⟨hk, hb.put (by omega) ho hc⟩
  case hIa =>
   rintro o W ⟨hk, hb⟩
   exact ⟨hk, hb.below2 ((Below.refl _ _).alloc (Nat.le_refl _) _)⟩
  case hp =>
   rintro k W ⟨hk, hb⟩
   refine ⟨fun b j => S b j ∨ (b = W3.heap.size ∧ j = 0), [], .pt [num n] _ 0 [.slice ad (pcs n).length cap] rfl (by simp [D.one]) ?_ (Reps.cons (hs.mono (fun _ _ h => .inl h) fun b o h => cell_of_heap (hb.below.block b (hS b o h))) .nil).2⟩
   intro i v hi
   match i with
   | 0 =>
     simp only [List.getElem?_cons_zero, Option.some.injEq] at hi
     subst hi
     exact ⟨.inr ⟨rfl, rfl⟩, by rw [Lib.cell_of_heap hb.it]; rfl⟩
   | i + 1 => simp at hi
  case h0 =>
   refine ⟨Nat.zero_le _, hW0.alloc hle _, (Below.heap_alloc _ _ _ (by obtain ⟨_, h⟩ := bld_cells hF0; have := (Array.getElem?_eq_some_iff.1 h).1; omega)).trans hB0, World.alloc_heap_new _ _, ?_⟩
   have : [] ++ topT n 0 = [] := by simp [topT]
   rw [this]
   exact isF_kept hF0 fun k o ho _ => (Below.heap_alloc _ _ _ (Array.getElem?_eq_some_iff.1 ho).1).trans ho
  case hdone =>
   rintro D W hD ⟨_, hb⟩ hDh
   rw [topT_all hpos] at hb
   gi_wp2
   refine ⟨trivial, CallsIn.mono ((callsIn_wide (n := 0)).2 (Any.Builder_String_k Tryz.lays169_b Tryz.bldX w.heap.size (w.heap.size + 1) (([] : List UInt8) ++ dd n) W hb.bld (by simp [dd_ne]))) ?_⟩
   rintro e W9 ⟨rfl, hF9, hW9, hk9⟩
   gi_wp2
   have hD9 : W9.heap[D]? = some (.deferred (some [])) := hk9 _ _ hDh (by obtain ⟨c, hc⟩ := bld_cells hb.bld; intro e; cases e; rw [hc] at hDh; cases hDh) (fun c fz hc => by cases hc)
   refine ⟨by simp, .inl ⟨D, W9.putObj D (.deferred none), rfl, run_takeDeferred hD9, ?_⟩⟩
   rw [World.size_alloc] at hD
   have hRl : R.length ≤ 810001 := by
    have := dd_len_pcs n 90000 hn (by decide)
    rw [← hR]
    simp only [List.length_append, List.length_cons, List.length_nil]
    have e : (Lib.decDigits n).length = (dd n).length := rfl
    omega
   exact ⟨.string ⟨R.toArray⟩, by simp [results, Sem.run_pure, go_sem], _, rfl, below_put (hb.below.trans hW9) (by omega) _, .str R (by unfold maxLen; omega)⟩
  case hround =>
   rintro l k W S1 d x hkm ⟨hk, hb⟩ hof hx hl ⟨ol, hol, holc⟩
   rw [World.size_alloc] at hl
   have hcell : (ints .u64 (pcs n)).drop ((pcs n).length - 1 - k) = .int .u64 ((pcs n).getD ((pcs n).length - 1 - k) 0) :: (ints .u64 (pcs n)).drop ((pcs n).length - 1 - k + 1) := by
    rw [List.drop_eq_getElem_cons (by rw [ints_length]; omega)]
    congr 1
    simp [ints, List.getD_eq_getElem?_getD, List.getElem?_eq_getElem (show (pcs n).length - 1 - k < (pcs n).length by omega)]
   have htx := topT_succ hpos hkm
   rw [Nat.mul_one, hcell, pcs_getD] at hof
   have hp9 : n / 1000000000 ^ ((pcs n).length - 1 - k) % 1000000000 < 1000000000 := Nat.mod_lt _ (by decide)
   generalize n / 1000000000 ^ ((pcs n).length - 1 - k) % 1000000000 = pj at *
   obtain rfl : d = .int .u64 (pj : Int) := by
    have := Option.some.inj hof
    exact this.symm
   cases hx
   gi_wp2
   refine ⟨fun _ _ h _ => h, fun o' ho' => ?_⟩
   have hbp := hb.put (o' := o') (show w.heap.size ≤ l by omega) hol holc
   have hLp := Tryz.hL w _ hL hbp.below
   have hkp : Keeps (W.putObj l o') (W.putObj l o') := fun _ _ h _ => h
   generalize W.putObj l o' = W6 at *
   gi_wp2
   have c145 := (Tryz.c115 (pj : Int) (by rw [inR_u64]; omega)).2 (fun _ _ => False) W6 [.int .u64 pj, .int .i64 10] (fun _ _ h => h.elim) hLp (Reps.cons (.int _ _) (Reps.cons (.int _ _) .nil))
   refine ⟨trivial, CallsIn.mono (callsWF c145) ?_⟩
   rintro e W7 ⟨v, rfl, hb7, hr⟩
   rw [Int.toNat_natCast] at hr
   have hb8 := hbp.below2 hb7
   have hk7 := keeps_below hb7
   have cb7 : W7.cell? ⟨w.heap.size, 1, none⟩ = some (.slice ad (pcs n).length cap) := by rw [Lib.cell_of_heap hb8.box]; rfl
   obtain rfl : v = .string ⟨(Lib.decDigits pj).toArray⟩ := by cases hr; rfl
   clear hr
   have hd9 : (Lib.decDigits pj).length ≤ 9 := dd_len_le (by decide) hp9
   gi_wp2
   all_goals try (exfalso; omega)
   ·have hk0 : k ≠ 0 := by omega
    rw [zeros_ext hd9]
    have c1 := Any.Builder_WriteString_k Tryz.lays166_b Tryz.bldX w.heap.size (w.heap.size + 1) (Lib.byteCells (([] : List UInt8) ++ topT n k)) ⟨(List.replicate (9 - (Lib.decDigits pj).length) 48).toArray⟩ W7 hb8.bld
     (by have := topT_len n k hn; simp only [Lib.byteCells_length, List.length_append, List.length_cons, List.length_nil, ByteArray.size, List.size_toArray, List.length_replicate]; omega) hb8.below.size
    refine ⟨trivial, CallsIn.mono (callsWF c1) ?_⟩
    rintro e W8 ⟨rfl, hF8, hW8, hk8⟩
    obtain ⟨cc8, hcc8⟩ := bld_cells hb8.bld
    have hk9 := keeps_trans hk7 (keeps_others hk8 hcc8)
    have hb9 := hb8.write hq0 (by decide) (by decide) rfl (s := List.replicate (9 - (Lib.decDigits pj).length) 48) hF8 hW8 hk8
    clear hF8 hW8 hk8 c1 hb7 cb7
    gi_wp2
    have c2 := Any.Builder_WriteString_k Tryz.lays166_b Tryz.bldX w.heap.size (w.heap.size + 1) (Lib.byteCells (([] : List UInt8) ++ topT n k ++ List.replicate (9 - (Lib.decDigits pj).length) 48)) ⟨(Lib.decDigits pj).toArray⟩ W8 hb9.bld
     (by have := topT_len n k hn; simp only [Lib.byteCells_length, List.length_append, List.length_cons, List.length_nil, ByteArray.size, List.size_toArray, List.length_replicate]; omega) hb9.below.size
    refine ⟨trivial, CallsIn.mono (callsWF c2) ?_⟩
    rintro e W9 ⟨rfl, hF9, hW9, hk10⟩
    obtain ⟨cc9, hcc9⟩ := bld_cells hb9.bld
    have hk11 := keeps_trans hk9 (keeps_others hk10 hcc9)
    have hb10 := hb9.write hq0 (by decide) (by decide) rfl (s := Lib.decDigits pj) hF9 hW9 hk10
    clear hF9 hW9 hk10 c2
    gi_wp2
    refine ⟨by omega, ?_⟩
    simpa [dd, htx, hk0] using hb10
   ·have hk0 : k = 0 := by omega
    have c2 := Any.Builder_WriteString_k Tryz.lays166_b Tryz.bldX w.heap.size (w.heap.size + 1) (Lib.byteCells (([] : List UInt8) ++ topT n k)) ⟨(Lib.decDigits pj).toArray⟩ W7 hb8.bld
     (by have := topT_len n k hn; simp only [Lib.byteCells_length, List.length_append, List.length_cons, List.length_nil, ByteArray.size, List.size_toArray, List.length_replicate]; omega) hb8.below.size
    refine ⟨trivial, CallsIn.mono (callsWF c2) ?_⟩
    rintro e W9 ⟨rfl, hF9, hW9, hk10⟩
    obtain ⟨cc9, hcc9⟩ := bld_cells hb8.bld
    have hk11 := keeps_trans hk7 (keeps_others hk10 hcc9)
    have hb10 := hb8.write hq0 (by decide) (by decide) rfl (s := Lib.decDigits pj) hF9 hW9 hk10
    clear hF9 hW9 hk10 c2
    gi_wp2
    refine ⟨by omega, ?_⟩
    subst hk0
    have htx1 : topT n 1 = topT n 0 ++ Lib.decDigits pj := by simpa [dd] using htx
    simpa [htx1] using hb10

 ·gi_wp2
  have hsz : w.heap.size ≤ ((w.alloc (.cells #[.bool true, .slice ad (pcs n).length cap] 117)).alloc (.cells #[.pointer none, .slice none 0 0] 149)).heap.size := hW0.size
  have c143 := Any.Builder_WriteByte_k Tryz.lays167_b Tryz.bldX w.heap.size (w.heap.size + 1) [] 45 _ hF0 (by simp) hsz
  generalize (w.alloc (.cells #[.bool true, .slice ad (pcs n).length cap] 117)).alloc (.cells #[.pointer none, .slice none 0 0] 149) = W5 at *
  refine ⟨trivial, CallsIn.mono ((callsIn_wide (n := 0)).2 c143) ?_⟩
  rintro e W3 ⟨rfl, hF1, hW1, hk1⟩
  have hB1 := hk1 _ _ hB0 (by simp) (fun c fz hc => by simp at hc; exact absurd hc.2.1 (by decide))
  have hW2 := hW0.trans hW1
  clear hW0 hF0 hB0 hW1 hk1 c143 hsz
  obtain rfl : sg = [45] := hsg.symm
  have hB0 := hB1
  have hW0 := hW2
  have hF0 : Lib.IsBuilderF 149 5 w.heap.size (w.heap.size + 1) (Lib.byteCells [45]) W3 := .inr hF1
  clear hB1 hW2 hF1
  have cb1 : W3.cell? ⟨w.heap.size, 1, none⟩ = some (.slice ad (pcs n).length cap) := by rw [Lib.cell_of_heap hB0]; rfl
  gi_wp2
  refine ⟨trivial, CallsIn.mono ((callsIn_wide (n := 0)).2 (c144 W3 ad _ cap)) ?_⟩
  rintro e W4 ⟨rfl, rfl⟩
  gi_wp2
  have hpos : 0 < n := Nat.pos_of_ne_zero h0
  have hq0 : W3.heap.size ≠ w.heap.size + 1 := fun e => by
   obtain ⟨c, hc⟩ := bld_cells hF0
   rw [Array.getElem?_eq_none (by omega)] at hc; cases hc
  have hle := hW0.size
  refine wpIn_back (gf := 135) (ag := false) (sz := 1) back135 (m := (pcs n).length) (cs := ints .u64 (pcs n)) (by rw [ints_length, Nat.mul_one]) rfl (by kernel_rfl)
   (fun k W => k ≤ (pcs n).length ∧ Bst w true (.slice ad (pcs n).length cap) 117 115 149 5 W3.heap.size ([45] ++ topT n k) W) ?hI ?hIa ?hp ?h0 ?hround ?hdone
  case hI =>
   rintro k W j o o' ⟨hk, hb⟩ hj ho hc _
   rw [World.size_alloc] at hj
   exact ⟨hk, hb.put (by omega) ho hc⟩
  case hIa =>
   rintro o W ⟨hk, hb⟩
   exact ⟨hk, hb.below2 ((Below.refl _ _).alloc (Nat.le_refl _) _)⟩
  case hp =>
   rintro k W ⟨hk, hb⟩
   refine ⟨fun b j => S b j ∨ (b = W3.heap.size ∧ j = 0), [], .pt [num n] _ 0 [.slice ad (pcs n).length cap] rfl (by simp [D.one]) ?_ (Reps.cons (hs.mono (fun _ _ h => .inl h) fun b o h => cell_of_heap (hb.below.block b (hS b o h))) .nil).2⟩
   intro i v hi
   match i with
   | 0 =>
     simp only [List.getElem?_cons_zero, Option.some.injEq] at hi
     subst hi
     exact ⟨.inr ⟨rfl, rfl⟩, by rw [Lib.cell_of_heap hb.it]; rfl⟩
   | i + 1 => simp at hi
  case h0 =>
   refine ⟨Nat.zero_le _, hW0.alloc hle _, (Below.heap_alloc _ _ _ (by obtain ⟨_, h⟩ := bld_cells hF0; have := (Array.getElem?_eq_some_iff.1 h).1; omega)).trans hB0, World.alloc_heap_new _ _, ?_⟩
   have : [45] ++ topT n 0 = [45] := by simp [topT]
   rw [this]
   exact isF_kept hF0 fun k o ho _ => (Below.heap_alloc _ _ _ (Array.getElem?_eq_some_iff.1 ho).1).trans ho
  case hdone =>
   rintro D W hD ⟨_, hb⟩ hDh
   rw [topT_all hpos] at hb
   gi_wp2
   refine ⟨trivial, CallsIn.mono ((callsIn_wide (n := 0)).2 (Any.Builder_String_k Tryz.lays169_b Tryz.bldX w.heap.size (w.heap.size + 1) ([45] ++ dd n) W hb.bld (by simp [dd_ne]))) ?_⟩
   rintro e W9 ⟨rfl, hF9, hW9, hk9⟩
   gi_wp2
   have hD9 : W9.heap[D]? = some (.deferred (some [])) := hk9 _ _ hDh (by obtain ⟨c, hc⟩ := bld_cells hb.bld; intro e; cases e; rw [hc] at hDh; cases hDh) (fun c fz hc => by cases hc)
   refine ⟨by simp, .inl ⟨D, W9.putObj D (.deferred none), rfl, run_takeDeferred hD9, ?_⟩⟩
   rw [World.size_alloc] at hD
   have hRl : R.length ≤ 810001 := by
    have := dd_len_pcs n 90000 hn (by decide)
    rw [← hR]
    simp only [List.length_append, List.length_cons, List.length_nil]
    have e : (Lib.decDigits n).length = (dd n).length := rfl
    omega
   exact ⟨.string ⟨R.toArray⟩, by simp [results, Sem.run_pure, go_sem], _, rfl, below_put (hb.below.trans hW9) (by omega) _, .str R (by unfold maxLen; omega)⟩
  case hround =>
   rintro l k W S1 d x hkm ⟨hk, hb⟩ hof hx hl ⟨ol, hol, holc⟩
   rw [World.size_alloc] at hl
   have hcell : (ints .u64 (pcs n)).drop ((pcs n).length - 1 - k) = .int .u64 ((pcs n).getD ((pcs n).length - 1 - k) 0) :: (ints .u64 (pcs n)).drop ((pcs n).length - 1 - k + 1) := by
    rw [List.drop_eq_getElem_cons (by rw [ints_length]; omega)]
    congr 1
    simp [ints, List.getD_eq_getElem?_getD, List.getElem?_eq_getElem (show (pcs n).length - 1 - k < (pcs n).length by omega)]
   have htx := topT_succ hpos hkm
   rw [Nat.mul_one, hcell, pcs_getD] at hof
   have hp9 : n / 1000000000 ^ ((pcs n).length - 1 - k) % 1000000000 < 1000000000 := Nat.mod_lt _ (by decide)
   generalize n / 1000000000 ^ ((pcs n).length - 1 - k) % 1000000000 = pj at *
   obtain rfl : d = .int .u64 (pj : Int) := by
    have := Option.some.inj hof
    exact this.symm
   cases hx
   gi_wp2
   refine ⟨fun _ _ h _ => h, fun o' ho' => ?_⟩
   have hbp := hb.put (o' := o') (show w.heap.size ≤ l by omega) hol holc
   have hLp := Tryz.hL w _ hL hbp.below
   have hkp : Keeps (W.putObj l o') (W.putObj l o') := fun _ _ h _ => h
   generalize W.putObj l o' = W6 at *
   gi_wp2
   have c145 := (Tryz.c115 (pj : Int) (by rw [inR_u64]; omega)).2 (fun _ _ => False) W6 [.int .u64 pj, .int .i64 10] (fun _ _ h => h.elim) hLp (Reps.cons (.int _ _) (Reps.cons (.int _ _) .nil))
   refine ⟨trivial, CallsIn.mono (callsWF c145) ?_⟩
   rintro e W7 ⟨v, rfl, hb7, hr⟩
   rw [Int.toNat_natCast] at hr
   have hb8 := hbp.below2 hb7
   have hk7 := keeps_below hb7
   have cb7 : W7.cell? ⟨w.heap.size, 1, none⟩ = some (.slice ad (pcs n).length cap) := by rw [Lib.cell_of_heap hb8.box]; rfl
   obtain rfl : v = .string ⟨(Lib.decDigits pj).toArray⟩ := by cases hr; rfl
   clear hr
   have hd9 : (Lib.decDigits pj).length ≤ 9 := dd_len_le (by decide) hp9
   gi_wp2
   all_goals try (exfalso; omega)
   ·have hk0 : k ≠ 0 := by omega
    rw [zeros_ext hd9]
    have c1 := Any.Builder_WriteString_k Tryz.lays166_b Tryz.bldX w.heap.size (w.heap.size + 1) (Lib.byteCells ([45] ++ topT n k)) ⟨(List.replicate (9 - (Lib.decDigits pj).length) 48).toArray⟩ W7 hb8.bld
     (by have := topT_len n k hn; simp only [Lib.byteCells_length, List.length_append, List.length_cons, List.length_nil, ByteArray.size, List.size_toArray, List.length_replicate]; omega) hb8.below.size
    refine ⟨trivial, CallsIn.mono (callsWF c1) ?_⟩
    rintro e W8 ⟨rfl, hF8, hW8, hk8⟩
    obtain ⟨cc8, hcc8⟩ := bld_cells hb8.bld
    have hk9 := keeps_trans hk7 (keeps_others hk8 hcc8)
    have hb9 := hb8.write hq0 (by decide) (by decide) rfl (s := List.replicate (9 - (Lib.decDigits pj).length) 48) hF8 hW8 hk8
    clear hF8 hW8 hk8 c1 hb7 cb7
    gi_wp2
    have c2 := Any.Builder_WriteString_k Tryz.lays166_b Tryz.bldX w.heap.size (w.heap.size + 1) (Lib.byteCells ([45] ++ topT n k ++ List.replicate (9 - (Lib.decDigits pj).length) 48)) ⟨(Lib.decDigits pj).toArray⟩ W8 hb9.bld
     (by have := topT_len n k hn; simp only [Lib.byteCells_length, List.length_append, List.length_cons, List.length_nil, ByteArray.size, List.size_toArray, List.length_replicate]; omega) hb9.below.size
    refine ⟨trivial, CallsIn.mono (callsWF c2) ?_⟩
    rintro e W9 ⟨rfl, hF9, hW9, hk10⟩
    obtain ⟨cc9, hcc9⟩ := bld_cells hb9.bld
    have hk11 := keeps_trans hk9 (keeps_others hk10 hcc9)
    have hb10 := hb9.write hq0 (by decide) (by decide) rfl (s := Lib.decDigits pj) hF9 hW9 hk10
    clear hF9 hW9 hk10 c2
    gi_wp2
    refine ⟨by omega, ?_⟩
    simpa [dd, htx, hk0] using hb10
   ·have hk0 : k = 0 := by omega
    have c2 := Any.Builder_WriteString_k Tryz.lays166_b Tryz.bldX w.heap.size (w.heap.size + 1) (Lib.byteCells ([45] ++ topT n k)) ⟨(Lib.decDigits pj).toArray⟩ W7 hb8.bld
     (by have := topT_len n k hn; simp only [Lib.byteCells_length, List.length_append, List.length_cons, List.length_nil, ByteArray.size, List.size_toArray, List.length_replicate]; omega) hb8.below.size
    refine ⟨trivial, CallsIn.mono (callsWF c2) ?_⟩
    rintro e W9 ⟨rfl, hF9, hW9, hk10⟩
    obtain ⟨cc9, hcc9⟩ := bld_cells hb8.bld
    have hk11 := keeps_trans hk7 (keeps_others hk10 hcc9)
    have hb10 := hb8.write hq0 (by decide) (by decide) rfl (s := Lib.decDigits pj) hF9 hW9 hk10
    clear hF9 hW9 hk10 c2
    gi_wp2
    refine ⟨by omega, ?_⟩
    subst hk0
    have htx1 : topT n 1 = topT n 0 ++ Lib.decDigits pj := by simpa [dd] using htx
    simpa [htx1] using hb10
end Go.Proofs

/-
 ARITHMETIC: signs ahead of texts (strings.HasPrefix, CutPrefix, TrimPrefix at "-"); integer.Sign, Neg, Of, Compare. Own work.
-/
namespace Go.Proofs
open Go Go.Pi Go.RowKit Go.Ar

/-- a minus sign ahead -/
def isMinus (s : List UInt8) : Prop := s.head? = some 45
instance (s : List UInt8) : Decidable (isMinus s) := inferInstanceAs (Decidable (_ = _))
def unDash (s : List UInt8) : List UInt8 := if isMinus s then s.drop 1 else s

theorem unDash_minus {s : List UInt8} (h : isMinus s) : unDash s = s.drop 1 := if_pos h
theorem unDash_plain {s : List UInt8} (h : ¬isMinus s) : unDash s = s := if_neg h
theorem minus_len {s : List UInt8} (h : isMinus s) : 1 ≤ s.length := by cases s <;> simp_all [isMinus]
theorem tz_nat (z : Int) : tz z = if z < 0 then 45 :: dd z.natAbs else dd z.natAbs := by
 unfold tz Lib.itoa
 split
 ·rfl
 ·rw [show z.toNat = z.natAbs by omega]
theorem dd_minus (n : Nat) : ¬isMinus (dd n) := by
 intro h
 have hd := dd_isDec n
 cases hn : dd n with
 | nil => exact dd_ne n hn
 | cons c r =>
   rw [hn] at h hd
   have : c = 45 := by simpa [isMinus] using h
   subst this
   have := hd 45 (List.mem_cons_self ..)
   revert this; decide
theorem tz_minus (z : Int) : isMinus (tz z) ↔ z < 0 := by
 rw [tz_nat]
 split
 ·rename_i h; exact ⟨fun _ => h, fun _ => rfl⟩
 ·rename_i h; exact ⟨fun h2 => absurd h2 (dd_minus _), fun h2 => absurd h2 h⟩
theorem unDash_tz (z : Int) : unDash (tz z) = dd z.natAbs := by
 by_cases h : z < 0
 ·rw [unDash_minus ((tz_minus z).2 h), tz_nat, if_pos h]; rfl
 ·rw [unDash_plain (fun h2 => h ((tz_minus z).1 h2)), tz_nat, if_neg h]
theorem tz_zero (z : Int) : tz z = [48] ↔ z = 0 := by
 constructor
 ·intro h
  have h1 : ¬z < 0 := fun h2 => by have := (tz_minus z).2 h2; rw [h] at this; revert this; decide
  rw [tz_nat, if_neg h1] at h
  have := (dd_head (r := []) h).2
  omega
 ·rintro rfl; exact dd_zero
theorem tz_neg_pos {z : Int} (h : 0 < z) : tz (-z) = 45 :: tz z := by
 rw [tz_nat, tz_nat, if_pos (by omega), if_neg (by omega), Int.natAbs_neg]
theorem tz_neg_neg {z : Int} (h : z < 0) : tz (-z) = (tz z).drop 1 := by
 rw [tz_nat, tz_nat z, if_neg (by omega), if_pos h, Int.natAbs_neg]; rfl
theorem tz_inj {x y : Int} (h : tz x = tz y) : x = y := by
 have h1 := tz_minus x
 have h2 := tz_minus y
 rw [h] at h1
 have h3 := unDash_tz x
 rw [h, unDash_tz y] at h3
 have := dd_inj h3
 by_cases hy : y < 0
 ·have := h1.1 (h2.2 hy); omega
 ·have : ¬x < 0 := fun hx => hy (h2.1 (h1.2 hx)); omega
theorem tz_ne (z : Int) : tz z ≠ [] := by
 rw [tz_nat]; split
 ·simp
 ·exact dd_ne _
theorem tz_len (z : Int) : (tz z).length = (if z < 0 then 1 else 0) + (dd z.natAbs).length := by
 rw [tz_nat]; split
 ·simp; omega
 ·simp
theorem close_tz (m : Bool) (n : Nat) : (if n = 0 then [48] else (if m then [45] else []) ++ Lib.decDigits n) = tz (if m then -(n : Int) else n) := by
 rw [tz_nat]
 by_cases h : n = 0
 ·subst h
  rw [if_pos rfl]
  cases m <;> simp <;> exact dd_zero.symm
 ·rw [if_neg h]
  cases m
  ·simp only [Bool.false_eq_true, if_false, List.nil_append, Int.natAbs_natCast]
   rw [if_neg (by omega)]
  ·simp only [if_true, Int.natAbs_neg, Int.natAbs_natCast]
   rw [if_pos (by omega)]; rfl

theorem Tryz.hasDash (s : List UInt8) (hs : s.length ≤ 1000000000) : Con Tryz.prog Tryz.L 118 [.str s, .str [45]] (.bool (dB (isMinus s))) := by
 refine rule118 Tryz.hL rfl rfl rfl ?_
 (simp only [pc118, rs118, oU, oC]; refine ev ?_; try exact ⟨⟩)
 cases s with
 | nil => exact ⟨fun h => by simp at h, fun _ => by simp [isMinus, dB]⟩
 | cons c r =>
   refine ⟨fun _ => ⟨by omega, by omega, by simp only [List.length_cons]; omega, ?_⟩, fun h => absurd (by simp only [List.length_cons]; omega) h⟩
   simp [isMinus, dB]
theorem Tryz.sHasDash (s : List UInt8) (hs : s.length ≤ 1000000000) : Con Tryz.prog Tryz.L 89 [.str s, .str [45]] (.bool (dB (isMinus s))) := by
 refine rule89 Tryz.hL rfl rfl rfl ?_
 (simp only [pc89, rs89, oU, oC]; refine ev ?_; try exact ⟨⟩)
 refine callF_of (Tryz.hasDash s hs) ?_
 (refine ev ?_; try exact ⟨⟩)
theorem Tryz.cutDash (s : List UInt8) (hs : s.length ≤ 1000000000) : Con Tryz.prog Tryz.L 106 [.str s, .str [45]] (.tup [.str (unDash s), .bool (dB (isMinus s))]) := by
 refine rule106 Tryz.hL rfl rfl rfl ?_
 (simp only [pc106, rs106, oU, oC]; refine ev ?_; try exact ⟨⟩)
 refine callF_of (Tryz.hasDash s hs) ?_
 (refine ev ?_; try exact ⟨⟩)
 refine ⟨fun h => ?_, fun h => ?_⟩
 ·rw [unDash_plain h]
  simp [resD_two, rvD, lk, D.plain, D.isPure, optAll, dB, h]
 ·have h := Decidable.of_not_not h
  have hl := minus_len h
  rw [unDash_minus h]
  refine ⟨by omega, by omega, by omega, ?_⟩
  rw [List.take_length]
  simp [resD_two, rvD, lk, D.plain, D.isPure, optAll, dB, h]
theorem Tryz.trimDash (s : List UInt8) (hs : s.length ≤ 1000000000) : Con Tryz.prog Tryz.L 107 [.str s, .str [45]] (.str (unDash s)) := by
 refine rule107 Tryz.hL rfl rfl rfl ?_
 (simp only [pc107, rs107, oU, oC]; refine ev ?_; try exact ⟨⟩)
 refine callF_of (Tryz.hasDash s hs) ?_
 (refine ev ?_; try exact ⟨⟩)
 refine ⟨fun h => ?_, fun h => by rw [unDash_plain h]⟩
 have hl := minus_len h
 rw [unDash_minus h]
 refine ⟨by omega, by omega, by omega, ?_⟩
 rw [List.take_length]
theorem Tryz.sCutDash (s : List UInt8) (hs : s.length ≤ 1000000000) : Con Tryz.prog Tryz.L 81 [.str s, .str [45]] (.tup [.str (unDash s), .bool (dB (isMinus s))]) := by
 refine rule81 Tryz.hL rfl rfl rfl ?_
 (simp only [pc81, rs81, oU, oC]; refine ev ?_; try exact ⟨⟩)
 refine callF_of (Tryz.cutDash s hs) ?_
 (refine ev ?_; try exact ⟨⟩)
 simp [resD_two, rvD, lk, D.plain, D.isPure, optAll]
theorem Tryz.sTrimDash (s : List UInt8) (hs : s.length ≤ 1000000000) : Con Tryz.prog Tryz.L 82 [.str s, .str [45]] (.str (unDash s)) := by
 refine rule82 Tryz.hL rfl rfl rfl ?_
 (simp only [pc82, rs82, oU, oC]; refine ev ?_; try exact ⟨⟩)
 refine callF_of (Tryz.trimDash s hs) ?_
 (refine ev ?_; try exact ⟨⟩)
theorem Tryz.sign (z : Int) (hz : (tz z).length ≤ 1000000) : Con Tryz.prog Tryz.L 60 [.str (tz z)] (.int .i64 z.sign) := by
 refine rule60 Tryz.hL rfl rfl rfl ?_
 (simp only [pc60, rs60, oU, oC]; refine ev ?_; try exact ⟨⟩)
 refine ⟨fun h => by rw [(tz_zero z).1 h]; rfl, fun h => ?_⟩
 have hz0 : ¬z = 0 := fun h2 => h ((tz_zero z).2 h2)
 refine callF_of (Tryz.sHasDash (tz z) (by omega)) ?_
 (refine ev ?_; try exact ⟨⟩)
 rw [tz_minus]
 refine ⟨fun h2 => ?_, fun h2 => ?_⟩
 ·exact (Int.sign_eq_neg_one_of_neg h2).symm
 ·exact (Int.sign_eq_one_of_pos (show 0 < z by omega)).symm
theorem Tryz.neg (z : Int) (hz : (tz z).length ≤ 1000000) : Con Tryz.prog Tryz.L 64 [.str (tz z)] (.str (tz (-z))) := by
 refine rule64 Tryz.hL rfl rfl rfl ?_
 (simp only [pc64, rs64, oU, oC]; refine ev ?_; try exact ⟨⟩)
 refine callF_of (Tryz.sign z hz) ?_
 (refine ev ?_; try exact ⟨⟩)
 refine ⟨fun h => ⟨by omega, ?_⟩, fun h => ⟨fun h2 => ?_, fun h2 => ?_⟩⟩
 ·rw [tz_neg_pos (Int.sign_eq_one_iff_pos.1 h)]
 ·have h3 := Int.sign_eq_neg_one_iff_neg.1 h2
  have h4 := minus_len ((tz_minus z).2 h3)
  rw [tz_neg_neg h3]
  exact ⟨by omega, by omega, by rw [List.take_length]⟩
 ·have : z = 0 := by
   rcases Int.lt_trichotomy z 0 with h3 | h3 | h3
   ·exact absurd (Int.sign_eq_neg_one_iff_neg.2 h3) h2
   ·exact h3
   ·exact absurd (Int.sign_eq_one_iff_pos.2 h3) h
  rw [this]; rfl
theorem Tryz.of (z : Int) (h : inR .i64 z) : Con Tryz.prog Tryz.L 39 [.int .i64 z] (.str (tz z)) := by
 refine rule39 Tryz.hL rfl rfl rfl ?_
 (simp only [pc39, rs39, oU, oC]; refine ev ?_; try exact ⟨⟩)
 refine callF_of (Tryz.c62 z h) ?_
 (refine ev ?_; try exact ⟨⟩)
end Go.Proofs

/-
 ARITHMETIC: integer.open, close, quick. Own work.
-/
namespace Go.Proofs
open Go Go.Pi Go.RowKit Go.Ar

theorem Tryz.closeZ (m : Bool) (n : Nat) (hn : (pcs n).length ≤ 90000) : Con Tryz.prog Tryz.L 87 [.agg [.bool m, num n]] (.str (tz (if m then -(n : Int) else n))) := by
 have := Tryz.close m n hn
 rw [close_tz] at this; exact this

theorem Tryz.open (z : Int) (hz : (tz z).length ≤ 800000) : Con Tryz.prog Tryz.L 85 [.str (tz z)] (.agg [.bool (dB (z < 0)), num z.natAbs]) := by
 refine rule85 Tryz.hL rfl rfl rfl ?_
 (simp only [pc85, rs85, oU, oC]; refine ev ?_; try exact ⟨⟩)
 refine callF_of (Tryz.sCutDash (tz z) (by omega)) ?_
 rw [unDash_tz]
 have hl : (dd z.natAbs).length ≤ 800000 := by have := tz_len z; omega
 have hd := dd_isDec z.natAbs
 have hv := dd_dva z.natAbs
 generalize z.natAbs = n at *
 generalize dd n = t at *
 (refine ev ?_; try exact ⟨⟩)
 rw [show isMinus (tz z) = (z < 0) from propext (tz_minus z)]
 rw [Int.tdiv_eq_ediv_of_nonneg (by omega)]
 and_intros <;> try omega
 refine loopF_of (fun E => ∃ (s : List UInt8) (p : List Int), s.length ≤ t.length ∧ isDec s ∧ isD big p ∧ p.length ≤ 800000 - s.length ∧ vl big p + big ^ p.length * (dva 0 s : Int) = n ∧
   E = [(2, .box true [.bool false, .sl 0 []]), (3, .str s), (4, .bool (dB (z < 0))), (5, .own true 107 p.length (ints .u64 p))])
  (fun E => match lk E 3 with | .str s => s.length | _ => 0) ⟨t, [], Nat.le_refl _, hd, fun x h => (by cases h), by simp, by simp [vl, hv], rfl⟩ ?_
 rintro _ ⟨s, p, hs, hsd, hpd, hpl, hpv, rfl⟩
 (refine ev ?_; try exact ⟨⟩)
 refine ⟨fun h1 => ?_, fun h1 => ?_⟩
 ·obtain ⟨k, hk, hk1⟩ : ∃ k : Nat, (if (0 : Int) > (s.length : Int) - 9 then (0 : Int) else (s.length : Int) - 9) = k ∧ k = s.length - 9 := ⟨s.length - 9, by split <;> omega, rfl⟩
  rw [hk, Int.toNat_natCast, List.take_length]
  have hs2 : s = s.take k ++ s.drop k := (List.take_append_drop k s).symm
  have hd2 := isDec_drop hsd k
  have hc2 := dva_lt hd2
  have hdl : (s.drop k).length ≤ 9 ∧ 0 < (s.drop k).length := by rw [List.length_drop]; omega
  have hc3 : dva 0 (s.drop k) < 1000000000 := Nat.lt_of_lt_of_le hc2 (Nat.pow_le_pow_right (n := 10) (by decide) hdl.1)
  have hp := Tryz.c110 (s.drop k) (by omega)
  rw [uintB_ok (fun h => by rw [h] at hdl; simp at hdl) hd2 (by omega)] at hp
  have hsplit : vl big p + big ^ p.length * ((dva 0 (s.drop k) : Int) + big * (dva 0 (s.take k) : Int)) = n := by
   rw [← hpv]
   congr 2
   have e : dva 0 s = dva 0 (s.take k) * 10 ^ (s.drop k).length + dva 0 (s.drop k) := by
    conv => lhs; rw [hs2]
    rw [dva_append, dva_lin]
   rcases Nat.eq_zero_or_pos k with h0 | h0
   ·rw [h0] at e ⊢
    simp only [List.take_zero, List.drop_zero, dva_nil] at e ⊢
    simp
   ·have : (s.drop k).length = 9 := by rw [List.length_drop]; omega
    rw [this] at e
    rw [e]
    simp only [big]
    omega
  and_intros <;> try omega
  refine callF_of hp ?_
  (refine ev ?_; try exact ⟨⟩)
  have hdk := isDec_take hsd k
  have hlk : (s.take k).length = k := by rw [List.length_take]; omega
  generalize dva 0 (s.drop k) = c at *
  generalize s.take k = s2 at *
  rw [Int.mul_add, ← Int.mul_assoc] at hsplit
  refine ⟨by omega, by omega, by omega, by omega, by omega, ⟨s2, p ++ [(c : Int)], by omega, hdk, isD_snoc hpd ⟨by omega, by simp only [big]; omega⟩, by rw [List.length_append, List.length_singleton]; omega, ?_, rfl, by rw [List.length_append]; rfl⟩, by omega⟩
  rw [vl_append, List.length_append, List.length_singleton, Int.pow_succ]
  simp only [vl, Int.mul_zero, Int.add_zero]
  omega
 ·obtain rfl : s = [] := List.eq_nil_of_length_eq_zero (by omega)
  have ht := Tryz.trim p (by omega)
  rw [dva_nil] at hpv
  have hpv2 : vl big p = n := by simpa using hpv
  rw [cutz_eq (B := 1000000000) (by decide) hpd, show vl ((1000000000 : Nat) : Int) p = (n : Int) from hpv2, Int.toNat_natCast] at ht
  refine callF_of ht ?_
  (refine ev ?_; try exact ⟨⟩)
  simp [resD_c, rvD, lk, ofCells, D.one, D.isPure, num, pcs]

theorem Tryz.quick (z : Int) (m : Int) (hm : 1 ≤ m ∧ m ≤ 18) (hz : (tz z).length ≤ 800000) : Con Tryz.prog Tryz.L 84 [.str (tz z), .int .i64 m] (if (tz z).length ≤ m then .tup [.int .i64 z, .bool true] else .tup [.int .i64 0, .bool false]) := by
 refine rule84 Tryz.hL (by split <;> rfl) rfl rfl ?_
 (simp only [pc84, rs84, oU, oC]; refine ev ?_; try exact ⟨⟩)
 refine ⟨fun h => ?_, fun h => ?_⟩
 ·rw [if_neg (by omega)]
  simp [resD_two, rvD, lk, D.plain, D.isPure, optAll]
 ·rw [if_pos (by omega)]
  have hl := tz_len z
  have hlt := dd_lt z.natAbs
  have h3 : z.natAbs < 10 ^ 18 := Nat.lt_of_lt_of_le hlt (Nat.pow_le_pow_right (by decide) (by omega))
  have h4 : z.natAbs < 1000000000000000000 := h3
  have ha := Tryz.c109 (tz z) (by omega)
  rw [atoi_tz (by omega) (by omega)] at ha
  refine callF_of ha ?_
  (refine ev ?_; try exact ⟨⟩)
  simp [resD_two, rvD, lk, D.plain, D.isPure, optAll]
end Go.Proofs

/-
 ARITHMETIC: integer.Add, Mul, DivMod, Gcd, Compare. Own work.
-/
namespace Go.Proofs
open Go Go.Pi Go.RowKit Go.Ar

/-- how many digits -/
def dl (z : Int) : Nat := (dd z.natAbs).length
theorem dl_pos (z : Int) : 0 < dl z := dd_len_pos _
theorem tz_dl (z : Int) : (tz z).length ≤ dl z + 1 := by rw [tz_len]; unfold dl; split <;> omega
theorem pcs_dl (z : Int) : (pcs z.natAbs).length ≤ dl z := by
 refine pcs_len_le (Nat.lt_of_lt_of_le (dd_lt _) ?_)
 exact Nat.pow_le_pow_left (by decide) _
theorem dl_mul (x y : Int) : dl (x * y) ≤ dl x + dl y := by
 refine dd_len_le (by have := dl_pos x; unfold dl at *; omega) ?_
 rw [Int.natAbs_mul, Nat.pow_add]
 exact Nat.mul_lt_mul'' (dd_lt _) (dd_lt _)
theorem dl_add {x y : Int} {k : Nat} (hx : dl x ≤ k) (hy : dl y ≤ k) : dl (x + y) ≤ k + 1 := by
 refine dd_len_le (by omega) ?_
 have h1 : x.natAbs < 10 ^ k := Nat.lt_of_lt_of_le (dd_lt _) (Nat.pow_le_pow_right (by decide) hx)
 have h2 : y.natAbs < 10 ^ k := Nat.lt_of_lt_of_le (dd_lt _) (Nat.pow_le_pow_right (by decide) hy)
 rw [Nat.pow_succ]; omega
theorem dl_neg (x : Int) : dl (-x) = dl x := by unfold dl; rw [Int.natAbs_neg]
theorem small18 {z : Int} (h : ((tz z).length : Int) ≤ 18) : z.natAbs < 1000000000000000000 := by
 have hl := tz_len z
 exact Nat.lt_of_lt_of_le (dd_lt z.natAbs) (Nat.pow_le_pow_right (n := 10) (by decide) (show (dd z.natAbs).length ≤ 18 by omega))
theorem small9 {z : Int} (h : ((tz z).length : Int) ≤ 9) : z.natAbs < 1000000000 := by
 have hl := tz_len z
 exact Nat.lt_of_lt_of_le (dd_lt z.natAbs) (Nat.pow_le_pow_right (n := 10) (by decide) (show (dd z.natAbs).length ≤ 9 by omega))

theorem sgn_b (z : Int) : ∃ b : Bool, dB (z < 0) = b ∧ z = if b then -(z.natAbs : Int) else (z.natAbs : Int) := by
 by_cases h : z < 0
 ·exact ⟨true, by simp [dB, h], by simp; omega⟩
 ·exact ⟨false, by simp [dB, h], by simp; omega⟩
theorem cmpN_neg {m n : Nat} : cmpN m n < 0 ↔ m < n := by unfold cmpN; split <;> (try split) <;> omega
theorem Tryz.add (x y : Int) (hx : dl x ≤ 80000) (hy : dl y ≤ 80000) : Con Tryz.prog Tryz.L 68 [.str (tz x), .str (tz y)] (.str (tz (x + y))) := by
 have tx := tz_dl x
 have ty := tz_dl y
 have px := pcs_dl x
 have py := pcs_dl y
 refine rule68 Tryz.hL rfl rfl rfl ?_
 (simp only [pc68, rs68, oU, oC]; refine ev ?_; try exact ⟨⟩)
 have ax := Tryz.open x (by omega)
 have ay := Tryz.open y (by omega)
 obtain ⟨bx, ebx, vx⟩ := sgn_b x
 obtain ⟨by', eby, vy⟩ := sgn_b y
 rw [ebx] at ax
 rw [eby] at ay
 have hord := Tryz.order x.natAbs y.natAbs (by omega) (by omega)
 have hpl := Tryz.n_plus x.natAbs y.natAbs (by omega) (by omega)
 have lpl := pcs_len_add (k := 80000) (m := x.natAbs) (n := y.natAbs) (by omega) (by omega)
 have cl := fun b n h => Tryz.closeZ b n h
 refine callF_of (Tryz.quick x 18 (by omega) (by omega)) ?_
 split
 rename_i h1
 (refine ev ?_; try exact ⟨⟩)
 refine callF_of (Tryz.quick y 18 (by omega) (by omega)) ?_
 split
 ·rename_i h2
  have s1 := small18 h1
  have s2 := small18 h2
  (refine ev ?_; try exact ⟨⟩)
  and_intros <;> try omega
  refine callF_of (Tryz.of (x + y) (by rw [inR_i64]; omega)) ?_
  (refine ev ?_; try exact ⟨⟩)
 all_goals
  (refine ev ?_; try exact ⟨⟩)
  refine callF_of ax ?_
  (refine ev ?_; try exact ⟨⟩)
  refine callF_of ay ?_
  generalize x.natAbs = m at *
  generalize y.natAbs = n at *
  subst vx vy
  cases bx <;> cases by'
  ·((try simp only [num]); refine ev ?_; try exact ⟨⟩)
   refine callF_of hpl ?_
   ((try simp only [num]); refine ev ?_; try exact ⟨⟩)
   refine callF_of (cl _ _ (by omega)) ?_
   ((try simp only [num]); refine ev ?_; try exact ⟨⟩)
   refine congrArg D.str (congrArg tz ?_)
   (try simp only [if_true, if_false, Bool.false_eq_true])
   omega
  ·((try simp only [num]); refine ev ?_; try exact ⟨⟩)
   refine callF_of hord ?_
   ((try simp only [num]); refine ev ?_; try exact ⟨⟩)
   rw [cmpN_neg]
   refine ⟨fun h5 => ?_, fun h5 => ?_⟩
   ·refine callF_of (Tryz.n_minus n m (by omega) (by omega)) ?_
    ((try simp only [num]); refine ev ?_; try exact ⟨⟩)
    refine callF_of (cl _ _ (by have := pcs_len_mono (Nat.sub_le n m); omega)) ?_
    ((try simp only [num]); refine ev ?_; try exact ⟨⟩)
    refine congrArg D.str (congrArg tz ?_)
    (try simp only [if_true, if_false, Bool.false_eq_true])
    omega
   ·refine callF_of (Tryz.n_minus m n (by omega) (by omega)) ?_
    ((try simp only [num]); refine ev ?_; try exact ⟨⟩)
    refine callF_of (cl _ _ (by have := pcs_len_mono (Nat.sub_le m n); omega)) ?_
    ((try simp only [num]); refine ev ?_; try exact ⟨⟩)
    refine congrArg D.str (congrArg tz ?_)
    (try simp only [if_true, if_false, Bool.false_eq_true])
    omega
  ·((try simp only [num]); refine ev ?_; try exact ⟨⟩)
   refine callF_of hord ?_
   ((try simp only [num]); refine ev ?_; try exact ⟨⟩)
   rw [cmpN_neg]
   refine ⟨fun h5 => ?_, fun h5 => ?_⟩
   ·refine callF_of (Tryz.n_minus n m (by omega) (by omega)) ?_
    ((try simp only [num]); refine ev ?_; try exact ⟨⟩)
    refine callF_of (cl _ _ (by have := pcs_len_mono (Nat.sub_le n m); omega)) ?_
    ((try simp only [num]); refine ev ?_; try exact ⟨⟩)
    refine congrArg D.str (congrArg tz ?_)
    (try simp only [if_true, if_false, Bool.false_eq_true])
    omega
   ·refine callF_of (Tryz.n_minus m n (by omega) (by omega)) ?_
    ((try simp only [num]); refine ev ?_; try exact ⟨⟩)
    refine callF_of (cl _ _ (by have := pcs_len_mono (Nat.sub_le m n); omega)) ?_
    ((try simp only [num]); refine ev ?_; try exact ⟨⟩)
    refine congrArg D.str (congrArg tz ?_)
    (try simp only [if_true, if_false, Bool.false_eq_true])
    omega
  ·((try simp only [num]); refine ev ?_; try exact ⟨⟩)
   refine callF_of hpl ?_
   ((try simp only [num]); refine ev ?_; try exact ⟨⟩)
   refine callF_of (cl _ _ (by omega)) ?_
   ((try simp only [num]); refine ev ?_; try exact ⟨⟩)
   refine congrArg D.str (congrArg tz ?_)
   (try simp only [if_true, if_false, Bool.false_eq_true])
   omega
end Go.Proofs

/-
 ARITHMETIC: integer.Mul, Compare, DivMod, Gcd. Own work.
-/
namespace Go.Proofs
open Go Go.Pi Go.RowKit Go.Ar

theorem mul_small {x y : Int} (hx : x.natAbs < 1000000000) (hy : y.natAbs < 1000000000) : (x * y).natAbs < 1000000000000000000 := by
 rw [Int.natAbs_mul]
 exact Nat.mul_lt_mul'' hx hy

theorem Tryz.mul (x y : Int) (hx : dl x ≤ 40000) (hy : dl y ≤ 40000) : Con Tryz.prog Tryz.L 59 [.str (tz x), .str (tz y)] (.str (tz (x * y))) := by
 have tx := tz_dl x
 have ty := tz_dl y
 have px := pcs_dl x
 have py := pcs_dl y
 refine rule59 Tryz.hL rfl rfl rfl ?_
 (simp only [pc59, rs59, oU, oC]; refine ev ?_; try exact ⟨⟩)
 have ax := Tryz.open x (by omega)
 have ay := Tryz.open y (by omega)
 obtain ⟨bx, ebx, vx⟩ := sgn_b x
 obtain ⟨by', eby, vy⟩ := sgn_b y
 rw [ebx] at ax
 rw [eby] at ay
 have hpl := Tryz.n_times x.natAbs y.natAbs (by omega) (by omega)
 have lpl := pcs_len_mul (k := 40000) (l := 40000) (m := x.natAbs) (f := y.natAbs) (by omega) (by omega)
 have cl := fun b n h => Tryz.closeZ b n h
 refine callF_of (Tryz.quick x 9 (by omega) (by omega)) ?_
 split
 rename_i h1
 (refine ev ?_; try exact ⟨⟩)
 refine callF_of (Tryz.quick y 9 (by omega) (by omega)) ?_
 split
 ·rename_i h2
  have s3 := mul_small (small9 h1) (small9 h2)
  (refine ev ?_; try exact ⟨⟩)
  generalize hm : x * y = xy at *
  and_intros <;> try omega
  refine callF_of (Tryz.of xy (by rw [inR_i64]; omega)) ?_
  (refine ev ?_; try exact ⟨⟩)
 all_goals
  (refine ev ?_; try exact ⟨⟩)
  refine callF_of ax ?_
  (refine ev ?_; try exact ⟨⟩)
  refine callF_of ay ?_
  generalize x.natAbs = m at *
  generalize y.natAbs = n at *
  subst vx vy
  cases bx <;> cases by'
  all_goals
   ((try simp only [num]); refine ev ?_; try exact ⟨⟩)
   refine callF_of hpl ?_
   ((try simp only [num]); refine ev ?_; try exact ⟨⟩)
   refine callF_of (cl _ _ (by omega)) ?_
   ((try simp only [num]); refine ev ?_; try exact ⟨⟩)
   refine congrArg D.str (congrArg tz ?_)
   (try simp only [if_true, if_false, Bool.false_eq_true, Int.natCast_mul, Int.neg_mul_neg, Int.neg_mul, Int.mul_neg, Int.neg_neg])

def cmpZ (x y : Int) : Int := if x < y then -1 else if y < x then 1 else 0
theorem Tryz.compare (x y : Int) (hx : dl x ≤ 80000) (hy : dl y ≤ 80000) : Con Tryz.prog Tryz.L 55 [.str (tz x), .str (tz y)] (.int .i64 (cmpZ x y)) := by
 have tx := tz_dl x
 have ty := tz_dl y
 refine rule55 Tryz.hL rfl rfl rfl ?_
 (simp only [pc55, rs55, oU, oC]; refine ev ?_; try exact ⟨⟩)
 refine callF_of (Tryz.sign x (by omega)) ?_
 (refine ev ?_; try exact ⟨⟩)
 refine callF_of (Tryz.sign y (by omega)) ?_
 (refine ev ?_; try exact ⟨⟩)
 have sg : ∀ z : Int, (z < 0 ∧ z.sign = -1) ∨ (z = 0 ∧ z.sign = 0) ∨ (0 < z ∧ z.sign = 1) := fun z => by
  rcases Int.lt_trichotomy z 0 with h | h | h
  ·exact .inl ⟨h, Int.sign_eq_neg_one_of_neg h⟩
  ·exact .inr (.inl ⟨h, by rw [h]; rfl⟩)
  ·exact .inr (.inr ⟨h, Int.sign_eq_one_of_pos h⟩)
 refine ⟨fun h => ⟨fun h2 => ?_, fun h2 => ?_⟩, fun h => ?_⟩
 ·have : x < y := by rcases sg x with h3 | h3 | h3 <;> rcases sg y with h4 | h4 | h4 <;> omega
  unfold cmpZ; rw [if_pos this]
 ·have : y < x := by rcases sg x with h3 | h3 | h3 <;> rcases sg y with h4 | h4 | h4 <;> omega
  unfold cmpZ; rw [if_neg (by omega), if_pos this]
 ·have h := Decidable.of_not_not h
  refine callF_of (Tryz.sTrimDash (tz x) (by omega)) ?_
  (refine ev ?_; try exact ⟨⟩)
  refine callF_of (Tryz.sTrimDash (tz y) (by omega)) ?_
  (refine ev ?_; try exact ⟨⟩)
  rw [unDash_tz, unDash_tz]
  have lx : (dd x.natAbs).length = dl x := rfl
  have ly : (dd y.natAbs).length = dl y := rfl
  have m1 := fun h => dd_len_lt (m := x.natAbs) (n := y.natAbs) h
  have m2 := fun h => dd_len_lt (m := y.natAbs) (n := x.natAbs) h
  have zz : ∀ a b : Int, a < b → cmpZ a b = -1 := fun a b h => if_pos h
  have zz2 : ∀ a b : Int, b < a → cmpZ a b = 1 := fun a b h => by unfold cmpZ; rw [if_neg (by omega), if_pos h]
  have zz3 : ∀ a b : Int, b = a → cmpZ a b = 0 := fun a b h => by unfold cmpZ; rw [if_neg (by omega), if_neg (by omega)]
  have hsx := sg x
  have hsy := sg y
  refine ⟨fun h2 => ⟨fun h3 => ?_, fun h3 => ?_⟩, fun h2 => ?_⟩
  ·have h4 := m1 (by omega)
   rcases hsx with ⟨h5, h6⟩ | ⟨h5, h6⟩ | ⟨h5, h6⟩ <;> rcases hsy with ⟨h7, h8⟩ | ⟨h7, h8⟩ | ⟨h7, h8⟩ <;> first
    | (exfalso; omega)
    | (rw [h6, zz x y (by omega)]; exact ⟨by omega, rfl⟩)
    | (rw [h6, zz2 x y (by omega)]; exact ⟨by omega, rfl⟩)
  ·have h4 := m2 (by omega)
   rcases hsx with ⟨h5, h6⟩ | ⟨h5, h6⟩ | ⟨h5, h6⟩ <;> rcases hsy with ⟨h7, h8⟩ | ⟨h7, h8⟩ | ⟨h7, h8⟩ <;> first
    | (exfalso; omega)
    | (rw [h6, zz x y (by omega)])
    | (rw [h6, zz2 x y (by omega)])
  ·have hc := Tryz.c83 (dd x.natAbs) (dd y.natAbs)
   rw [cmpB_dec (dd_isDec _) (dd_isDec _) (by omega), dd_dva, dd_dva] at hc
   refine callF_of hc ?_
   (refine ev ?_; try exact ⟨⟩)
   rcases Nat.lt_trichotomy x.natAbs y.natAbs with h9 | h9 | h9
   ·rw [show cmpN' x.natAbs y.natAbs = -1 from if_pos h9]
    rcases hsx with ⟨h5, h6⟩ | ⟨h5, h6⟩ | ⟨h5, h6⟩ <;> rcases hsy with ⟨h7, h8⟩ | ⟨h7, h8⟩ | ⟨h7, h8⟩ <;> first
     | (exfalso; omega)
     | (rw [h6, zz x y (by omega)]; exact ⟨by omega, rfl⟩)
     | (rw [h6, zz2 x y (by omega)]; exact ⟨by omega, rfl⟩)
   ·rw [show cmpN' x.natAbs y.natAbs = 0 by unfold cmpN'; rw [if_neg (by omega), if_neg (by omega)], Int.mul_zero]
    rcases hsx with ⟨h5, h6⟩ | ⟨h5, h6⟩ | ⟨h5, h6⟩ <;> rcases hsy with ⟨h7, h8⟩ | ⟨h7, h8⟩ | ⟨h7, h8⟩ <;> first
     | (exfalso; omega)
     | (rw [zz3 x y (by omega)]; exact ⟨by omega, rfl⟩)
   ·rw [show cmpN' x.natAbs y.natAbs = 1 by unfold cmpN'; rw [if_neg (by omega), if_pos h9]]
    rcases hsx with ⟨h5, h6⟩ | ⟨h5, h6⟩ | ⟨h5, h6⟩ <;> rcases hsy with ⟨h7, h8⟩ | ⟨h7, h8⟩ | ⟨h7, h8⟩ <;> first
     | (exfalso; omega)
     | (rw [h6, zz x y (by omega)]; exact ⟨by omega, rfl⟩)
     | (rw [h6, zz2 x y (by omega)]; exact ⟨by omega, rfl⟩)
end Go.Proofs

/-
 ARITHMETIC: integer.DivMod, Gcd. Own work.
-/
namespace Go.Proofs
open Go Go.Pi Go.RowKit Go.Ar

theorem dm_pos (m n : Nat) : (m : Int) / n = ((m / n : Nat) : Int) ∧ (m : Int) % n = ((m % n : Nat) : Int) := ⟨rfl, rfl⟩
theorem dm_neg0 {m n : Nat} (hn : 0 < n) (h : m % n = 0) : (-(m : Int)) / n = -((m / n : Nat) : Int) ∧ (-(m : Int)) % n = 0 := by
 refine (Int.ediv_emod_unique (by omega)).2 ⟨?_, by omega, by omega⟩
 have := Nat.div_add_mod m n
 rw [h] at this
 have e : ((n * (m / n) : Nat) : Int) = m := by omega
 rw [Int.natCast_mul] at e
 rw [Int.mul_neg, e]; omega
theorem dm_neg1 {m n : Nat} (hn : 0 < n) (h : m % n ≠ 0) : (-(m : Int)) / n = -((m / n + 1 : Nat) : Int) ∧ (-(m : Int)) % n = ((n - m % n : Nat) : Int) := by
 have hlt := Nat.mod_lt m hn
 have hd := Nat.div_add_mod m n
 generalize m % n = r at *
 generalize m / n = q at *
 refine (Int.ediv_emod_unique (by omega)).2 ⟨?_, by omega, by omega⟩
 have e : ((n * q + r : Nat) : Int) = m := by rw [hd]
 rw [Int.natCast_add, Int.natCast_mul] at e
 rw [Int.mul_neg, Int.natCast_add, Int.mul_add]
 omega

set_option maxHeartbeats 2000000 in
theorem Tryz.divMod (x y : Int) (hx : dl x ≤ 80000) (hy : dl y ≤ 80000) (hy0 : y ≠ 0) : Con Tryz.prog Tryz.L 90 [.str (tz x), .str (tz y)] (.tup [.str (tz (x / y)), .str (tz (x % y)), .int .i64 0]) := by
 have tx := tz_dl x
 have ty := tz_dl y
 have px := pcs_dl x
 have py := pcs_dl y
 refine rule90 Tryz.hL rfl rfl rfl ?_
 (simp only [pc90, rs90, oU, oC]; refine ev ?_; try exact ⟨⟩)
 have ax := Tryz.open x (by omega)
 have ay := Tryz.open y (by omega)
 obtain ⟨bx, ebx, vx⟩ := sgn_b x
 obtain ⟨by', eby, vy⟩ := sgn_b y
 rw [ebx] at ax
 rw [eby] at ay
 have hdv := Tryz.divide x.natAbs y.natAbs (by omega) (by omega) (by omega)
 refine ⟨fun h => absurd ((tz_zero y).1 h) hy0, fun _ => ?_⟩
 refine callF_of ax ?_
 (refine ev ?_; try exact ⟨⟩)
 refine callF_of ay ?_
 have hm0 : 0 < y.natAbs := by omega
 have cl := fun b n h => Tryz.closeZ b n h
 have p1 : pcs 1 = [1] := pcs_small (by decide) (by decide)
 have hpl := Tryz.n_plus (x.natAbs / y.natAbs) 1 (by have := pcs_len_mono (Nat.div_le_self x.natAbs y.natAbs); omega) (by rw [p1]; simp)
 rw [show num 1 = D.sl 1 [.int .u64 1] by unfold num; rw [p1]; rfl] at hpl
 have hlt := Nat.mod_lt x.natAbs hm0
 have hmi := Tryz.n_minus y.natAbs (x.natAbs % y.natAbs) (by omega) (by omega)
 have l1 := pcs_len_mono (Nat.div_le_self x.natAbs y.natAbs)
 have l2 := pcs_len_mono (Nat.le_of_lt hlt)
 have l3 := pcs_len_mono (Nat.sub_le y.natAbs (x.natAbs % y.natAbs))
 have l4 := pcs_len_add (k := 80000) (m := x.natAbs / y.natAbs) (n := 1) (by omega) (by rw [p1]; simp)
 have hz : (0 : Int) < (pcs (x.natAbs % y.natAbs)).length ↔ x.natAbs % y.natAbs ≠ 0 := by
  constructor
  ·intro h h2; rw [h2, pcs_zero] at h; simp at h
  ·intro h; have := pcs_len_pos (Nat.pos_of_ne_zero h); omega
 have n0 := @dm_neg0 x.natAbs y.natAbs hm0
 have n1 := @dm_neg1 x.natAbs y.natAbs hm0
 have p0 := dm_pos x.natAbs y.natAbs
 generalize x.natAbs = m at *
 generalize y.natAbs = n at *
 generalize m / n = d at *
 generalize m % n = r at *
 subst vx vy
 cases bx <;> cases by'
 all_goals
  ((try simp only [num]); refine ev ?_; try exact ⟨⟩)
  refine callF_of hdv ?_
  ((try simp only [num]); refine ev ?_; try exact ⟨⟩)
 ·refine callF_of (cl _ _ (by omega)) ?_
  ((try simp only [num]); refine ev ?_; try exact ⟨⟩)
  refine callF_of (cl _ _ (by omega)) ?_
  ((try simp only [num]); refine ev ?_; try exact ⟨⟩)
  rw [p0.1, p0.2]
  simp [resD_two, rvD, lk, D.plain, D.isPure, optAll]
 ·refine callF_of (cl _ _ (by omega)) ?_
  ((try simp only [num]); refine ev ?_; try exact ⟨⟩)
  refine callF_of (cl _ _ (by omega)) ?_
  ((try simp only [num]); refine ev ?_; try exact ⟨⟩)
  rw [Int.ediv_neg, Int.emod_neg, p0.1, p0.2]
  simp [resD_two, rvD, lk, D.plain, D.isPure, optAll]
 ·rw [show ((0 : Int) < (pcs r).length) = (r ≠ 0) from propext hz]
  refine ⟨fun h5 => ?_, fun h5 => ?_⟩
  ·refine callF_of hpl ?_
   ((try simp only [num]); refine ev ?_; try exact ⟨⟩)
   refine callF_of hmi ?_
   ((try simp only [num]); refine ev ?_; try exact ⟨⟩)
   have n1 := n1 h5
   refine callF_of (cl _ _ (by omega)) ?_
   ((try simp only [num]); refine ev ?_; try exact ⟨⟩)
   refine callF_of (cl _ _ (by omega)) ?_
   ((try simp only [num]); refine ev ?_; try exact ⟨⟩)
   rw [n1.1, n1.2]
   simp [resD_two, rvD, lk, D.plain, D.isPure, optAll]
  ·have h5 : r = 0 := Decidable.of_not_not h5
   have n0 := n0 h5
   refine callF_of (cl _ _ (by omega)) ?_
   ((try simp only [num]); refine ev ?_; try exact ⟨⟩)
   refine callF_of (cl _ _ (by omega)) ?_
   ((try simp only [num]); refine ev ?_; try exact ⟨⟩)
   rw [n0.1, n0.2, h5, show ((0 : Nat) : Int) = 0 from rfl]
   simp [resD_two, rvD, lk, D.plain, D.isPure, optAll]
 ·rw [show ((0 : Int) < (pcs r).length) = (r ≠ 0) from propext hz]
  refine ⟨fun h5 => ?_, fun h5 => ?_⟩
  ·refine callF_of hpl ?_
   ((try simp only [num]); refine ev ?_; try exact ⟨⟩)
   refine callF_of hmi ?_
   ((try simp only [num]); refine ev ?_; try exact ⟨⟩)
   have n1 := n1 h5
   refine callF_of (cl _ _ (by omega)) ?_
   ((try simp only [num]); refine ev ?_; try exact ⟨⟩)
   refine callF_of (cl _ _ (by omega)) ?_
   ((try simp only [num]); refine ev ?_; try exact ⟨⟩)
   rw [Int.ediv_neg, Int.emod_neg, n1.1, n1.2, Int.neg_neg]
   simp [resD_two, rvD, lk, D.plain, D.isPure, optAll]
  ·have h5 : r = 0 := Decidable.of_not_not h5
   have n0 := n0 h5
   refine callF_of (cl _ _ (by omega)) ?_
   ((try simp only [num]); refine ev ?_; try exact ⟨⟩)
   refine callF_of (cl _ _ (by omega)) ?_
   ((try simp only [num]); refine ev ?_; try exact ⟨⟩)
   rw [Int.ediv_neg, Int.emod_neg, n0.1, n0.2, Int.neg_neg, h5, show ((0 : Nat) : Int) = 0 from rfl]
   simp [resD_two, rvD, lk, D.plain, D.isPure, optAll]

def dInt : D → Int
 | .int _ i => i
 | _ => 0
theorem ints_back (k : IntKind) (l : List Int) : (ints k l).map dInt = l := by
 unfold ints
 rw [List.map_map]
 exact List.map_id'' (fun _ => rfl) l
theorem gcd_next (u v : Nat) : Nat.gcd v (u % v) = Nat.gcd u v := by rw [Nat.gcd_comm v, ← Nat.gcd_rec, Nat.gcd_comm]

theorem Tryz.gcd (x y : Int) (hx : dl x ≤ 80000) (hy : dl y ≤ 80000) : Con Tryz.prog Tryz.L 56 [.str (tz x), .str (tz y)] (.str (tz (Nat.gcd x.natAbs y.natAbs : Nat))) := by
 have tx := tz_dl x
 have ty := tz_dl y
 have px := pcs_dl x
 have py := pcs_dl y
 refine rule56 Tryz.hL rfl rfl rfl ?_
 (simp only [pc56, rs56, oU, oC]; refine ev ?_; try exact ⟨⟩)
 have ax := Tryz.open x (by omega)
 have ay := Tryz.open y (by omega)
 refine callF_of (Tryz.quick x 18 (by omega) (by omega)) ?_
 split
 rename_i h1
 (refine ev ?_; try exact ⟨⟩)
 refine callF_of (Tryz.quick y 18 (by omega) (by omega)) ?_
 split
 ·rename_i h2
  have s1 := small18 h1
  have s2 := small18 h2
  (refine ev ?_; try exact ⟨⟩)
  refine loopF_of (fun E => ∃ u v : Int, u.natAbs < 1000000000000000000 ∧ v.natAbs < 1000000000000000000 ∧ Nat.gcd u.natAbs v.natAbs = Nat.gcd x.natAbs y.natAbs ∧
    (E = [(0, .str (tz x)), (1, .str (tz y)), (5, .int .i64 u), (7, .int .i64 v), (24, .bool true)] ∨ E = [(5, .int .i64 u), (7, .int .i64 v)]))
   (fun E => match lk E 7 with | .int _ v => v.natAbs | _ => 0) ⟨x, y, s1, s2, rfl, .inl rfl⟩ ?_
  rintro _ ⟨u, v, hu, hv, hg, rfl | rfl⟩
  all_goals
   (refine ev ?_; try exact ⟨⟩)
   refine ⟨fun h5 => ?_, fun h5 => ?_⟩
   ·have h6 : (u.tmod v).natAbs = u.natAbs % v.natAbs := Int.natAbs_tmod _ _
    have h7 := Nat.mod_lt u.natAbs (show 0 < v.natAbs by omega)
    refine ⟨h5, ⟨v, u.tmod v, hv, by omega, ?_, by simp⟩, by omega⟩
    rw [h6, ← hg, Nat.gcd_comm u.natAbs, Nat.gcd_rec v.natAbs u.natAbs, Nat.gcd_comm]
   ·have h5 : v = 0 := Decidable.of_not_not h5
    subst h5
    rw [show Nat.gcd u.natAbs (0 : Int).natAbs = u.natAbs from Nat.gcd_zero_right _] at hg
    have hmx : (if u < 0 - u then 0 - u else u) = ((u.natAbs : Nat) : Int) := by split <;> omega
    refine ⟨by omega, ?_⟩
    have e9 : (if 0 - u > u then 0 - u else u) = ((u.natAbs : Nat) : Int) := hmx
    rw [e9, hg]
    rw [hg] at hu
    refine callF_of (Tryz.of _ (by rw [inR_i64]; omega)) ?_
    (refine ev ?_; try exact ⟨⟩)
 all_goals
  (refine ev ?_; try exact ⟨⟩)
  refine callF_of ax ?_
  ((try simp only [num]); refine ev ?_; try exact ⟨⟩)
  refine callF_of ay ?_
  ((try simp only [num]); refine ev ?_; try exact ⟨⟩)
  refine loopF_of (fun E => ∃ u v : Nat, (pcs u).length ≤ 80000 ∧ (pcs v).length ≤ 80000 ∧ Nat.gcd u v = Nat.gcd x.natAbs y.natAbs ∧ E = [(9, num u), (10, num v)])
   (fun E => match lk E 10 with | .sl _ cs => (vl big (cs.map dInt)).toNat | _ => 0) ⟨x.natAbs, y.natAbs, by omega, by omega, rfl, rfl⟩ ?_
  rintro _ ⟨u, v, hu, hv, hg, rfl⟩
  ((try simp only [num]); refine ev ?_; try exact ⟨⟩)
  refine ⟨fun h5 => ?_, fun h5 => ?_⟩
  ·have hv0 : 0 < v := by
    rcases Nat.eq_zero_or_pos v with h | h
    ·rw [h, pcs_zero] at h5; simp at h5
    ·exact h
   refine callF_of (Tryz.divide u v (by omega) (by omega) hv0) ?_
   ((try simp only [num]); refine ev ?_; try exact ⟨⟩)
   have hlt := Nat.mod_lt u hv0
   have lm := pcs_len_mono (Nat.le_of_lt hlt)
   refine ⟨⟨v, u % v, hv, by omega, by rw [gcd_next]; exact hg, rfl, rfl⟩, ?_⟩
   rw [ints_back, ints_back, pcs_vl, pcs_vl]; omega
  ·have h5 : v = 0 := by
    rcases Nat.eq_zero_or_pos v with h | h
    ·exact h
    ·have := pcs_len_pos h; omega
   subst h5
   rw [Nat.gcd_zero_right] at hg
   refine callF_of (Tryz.closeZ false u (by omega)) ?_
   ((try simp only [num]); refine ev ?_; try exact ⟨⟩)
   rw [hg]
end Go.Proofs

/-
 ARITHMETIC: rational numbers and their texts, plain. Own work.
-/
namespace Go.Ar
open Go.Proofs

theorem mk_num {n : Int} {d : Nat} (hd : d ≠ 0) : (mkRat n d).num = n / ((Nat.gcd n.natAbs d : Nat) : Int) := by
 rw [Rat.num_mkRat, if_neg hd, Nat.gcd_comm]
theorem mk_den {n : Int} {d : Nat} (hd : d ≠ 0) : (mkRat n d).den = d / Nat.gcd n.natAbs d := by
 rw [Rat.den_mkRat, if_neg hd, Nat.gcd_comm]
theorem mk_num_abs {n : Int} {d : Nat} (hd : d ≠ 0) : (mkRat n d).num.natAbs = n.natAbs / Nat.gcd n.natAbs d := by
 rw [mk_num hd, Int.natAbs_ediv_of_dvd]
 ·rfl
 ·exact Int.ofNat_dvd_left.2 (Nat.gcd_dvd_left _ _)
theorem mk_one (n : Int) : mkRat n 1 = (n : Rat) := by
 apply Rat.ext
 ·rw [mk_num (by decide), Nat.gcd_one_right]; simp
 ·rw [mk_den (by decide), Nat.gcd_one_right]; rfl
theorem add_mk (a b : Rat) : mkRat (a.num * b.den + b.num * a.den) (a.den * b.den) = a + b := (Rat.add_def' a b).symm
theorem mul_mk (a b : Rat) : mkRat (a.num * b.num) (a.den * b.den) = a * b := (Rat.mul_def' a b).symm
theorem sign_num (q : Rat) : (q.num < 0 ↔ q < 0) ∧ (q.num = 0 ↔ q = 0) ∧ (0 < q.num ↔ 0 < q) := by
 have h1 : 0 ≤ q.num ↔ 0 ≤ q := Rat.num_nonneg
 have h2 : q.num = 0 ↔ q = 0 := Rat.num_eq_zero
 have h3 : ∀ a b : Rat, ¬a ≤ b ↔ b < a := fun a b => Rat.not_le
 refine ⟨?_, h2, ?_⟩
 ·rw [← h3, ← h1]; omega
 ·rw [Rat.lt_iff_le_and_ne, ← h1, Ne, eq_comm, ← h2]; omega
theorem q_eq (q : Rat) : q = mkRat q.num q.den := (Rat.mkRat_self q).symm
theorem lt_cross (a b : Rat) : a < b ↔ a.num * b.den < b.num * a.den := Rat.lt_iff a b
theorem den_one {q : Rat} (h : q.den = 1) : q = (q.num : Rat) := by
 conv => lhs; rw [q_eq q, h, mk_one]
theorem cop (q : Rat) : Nat.gcd q.num.natAbs q.den = 1 := q.reduced
theorem den_zero {q : Rat} (h : q.num = 0) : q.den = 1 := by
 have := cop q
 rw [h] at this; simpa using this
theorem mk_cop {n : Int} {d : Nat} (hd : d ≠ 0) (h : Nat.gcd n.natAbs d = 1) : (mkRat n d).num = n ∧ (mkRat n d).den = d := by
 rw [mk_num hd, mk_den hd, h]; simp

/-! ### texts -/
/-- the text of a number -/
def rt (q : Rat) : List UInt8 := if q.den = 1 then tz q.num else tz q.num ++ 47 :: dd q.den
/-- how many digits -/
def rd (q : Rat) : Nat := max (dl q.num) (dd q.den).length
theorem rt_int {q : Rat} (h : q.den = 1) : rt q = tz q.num := if_pos h
theorem rt_frac {q : Rat} (h : q.den ≠ 1) : rt q = tz q.num ++ 47 :: dd q.den := if_neg h
theorem rt_z (z : Int) : rt (z : Rat) = tz z := if_pos rfl
theorem dd_noslash {n : Nat} : ∀ c ∈ dd n, c ≠ 47 := fun c hc h => by
 have := dd_isDec n c hc
 rw [h] at this; revert this; decide
theorem tz_noslash {z : Int} : ∀ c ∈ tz z, c ≠ 47 := fun c hc h => by
 rw [tz_nat] at hc
 split at hc
 ·rcases List.mem_cons.1 hc with h2 | h2
  ·rw [h2] at h; revert h; decide
  ·exact dd_noslash c h2 h
 ·exact dd_noslash c hc h
theorem split_inj {a b c d : List UInt8} (ha : ∀ x ∈ a, x ≠ 47) (hc : ∀ x ∈ c, x ≠ 47) (h : a ++ 47 :: b = c ++ 47 :: d) : a = c ∧ b = d := by
 induction a generalizing c with
 | nil =>
   cases c with
   | nil => simpa using h
   | cons y c => exact absurd (by simpa using h : (47 : UInt8) = y ∧ _).1.symm (hc y (List.mem_cons_self ..))
 | cons x a ih =>
   cases c with
   | nil => exact absurd (by simpa using h : x = 47 ∧ _).1 (ha x (List.mem_cons_self ..))
   | cons y c =>
     simp only [List.cons_append, List.cons.injEq] at h
     obtain ⟨h1, h2⟩ := ih (fun x hx => ha x (List.mem_cons_of_mem _ hx)) (fun x hx => hc x (List.mem_cons_of_mem _ hx)) h.2
     exact ⟨by rw [h.1, h1], h2⟩
theorem rt_noslash {q : Rat} : (∀ c ∈ rt q, c ≠ 47) ↔ q.den = 1 := by
 constructor
 ·intro h
  refine Decidable.byContradiction fun h2 => ?_
  rw [rt_frac h2] at h
  exact h 47 (by simp) rfl
 ·intro h; rw [rt_int h]; exact tz_noslash
theorem rt_inj {p q : Rat} (h : rt p = rt q) : p = q := by
 by_cases h1 : p.den = 1
 ·have h2 : q.den = 1 := rt_noslash.1 (h ▸ rt_noslash.2 h1)
  rw [rt_int h1, rt_int h2] at h
  rw [den_one h1, den_one h2, tz_inj h]
 ·have h2 : q.den ≠ 1 := fun h2 => h1 (rt_noslash.1 (h ▸ rt_noslash.2 h2))
  rw [rt_frac h1, rt_frac h2] at h
  obtain ⟨h3, h4⟩ := split_inj tz_noslash tz_noslash h
  exact Rat.ext (tz_inj h3) (dd_inj h4)
theorem rt_ne {q : Rat} : rt q ≠ [] := by
 unfold rt; split
 ·exact tz_ne _
 ·simp
theorem zero_txt : rt 0 = [48] := (rt_z 0).trans dd_zero
theorem one_txt : rt 1 = [49] := (rt_z 1).trans (by rw [tz_nat, if_neg (by decide)]; exact dd_small (by decide))
theorem rt_zero {q : Rat} : rt q = [48] ↔ q = 0 := ⟨fun h => rt_inj (h.trans zero_txt.symm), fun h => by rw [h, zero_txt]⟩
theorem rt_one {q : Rat} : rt q = [49] ↔ q = 1 := ⟨fun h => rt_inj (h.trans one_txt.symm), fun h => by rw [h, one_txt]⟩
theorem dd_one : dd 1 = [49] := dd_small (by decide)
theorem tz_one {z : Int} : tz z = [49] ↔ z = 1 := by
 rw [← rt_z, rt_one]
 exact ⟨fun h => by have := congrArg Rat.num h; simpa using this, fun h => by rw [h]; rfl⟩
theorem dd_tz (n : Nat) : tz (n : Int) = dd n := by rw [tz_nat, if_neg (by omega)]; rfl
theorem rt_len (q : Rat) : (rt q).length ≤ 2 * rd q + 2 := by
 have h1 := tz_dl q.num
 have h2 : dl q.num ≤ rd q := Nat.le_max_left _ _
 have h3 : (dd q.den).length ≤ rd q := Nat.le_max_right _ _
 unfold rt; split
 ·omega
 ·rw [List.length_append, List.length_cons]; omega
theorem isMinus_append {a b : List UInt8} (h : a ≠ []) : isMinus (a ++ b) ↔ isMinus a := by
 cases a with
 | nil => exact absurd rfl h
 | cons c a => simp [isMinus]
theorem rt_minus (q : Rat) : isMinus (rt q) ↔ q < 0 := by
 rw [← (sign_num q).1, ← tz_minus]
 unfold rt; split
 ·exact Iff.rfl
 ·exact isMinus_append (tz_ne _)
theorem rt_neg_pos {q : Rat} (h : 0 < q) : rt (-q) = 45 :: rt q := by
 have h1 := (sign_num q).2.2.2 h
 unfold rt
 rw [Rat.neg_den, Rat.neg_num, tz_neg_pos h1]
 split <;> rfl
theorem rt_neg_neg {q : Rat} (h : q < 0) : rt (-q) = (rt q).drop 1 := by
 have h1 := (sign_num q).1.2 h
 unfold rt
 rw [Rat.neg_den, Rat.neg_num, tz_neg_neg h1]
 split
 ·rfl
 ·rw [List.drop_append_of_le_length (minus_len ((tz_minus _).2 h1))]

/-! ### digits -/
theorem rd_num (q : Rat) : dl q.num ≤ rd q := Nat.le_max_left _ _
theorem rd_den (q : Rat) : (dd q.den).length ≤ rd q := Nat.le_max_right _ _
theorem dl_nat (n : Nat) : dl (n : Int) = (dd n).length := rfl
theorem rd_z (z : Int) : rd (z : Rat) = dl z := by
 unfold rd
 rw [show ((z : Rat)).den = 1 from rfl, show ((z : Rat)).num = z from rfl, dd_one]
 exact Nat.max_eq_left (dl_pos z)
theorem rd_neg (q : Rat) : rd (-q) = rd q := by unfold rd; rw [Rat.neg_den, Rat.neg_num, dl_neg]
theorem rd_mk {n : Int} {d k : Nat} (hd : d ≠ 0) (hn : dl n ≤ k) (hk : (dd d).length ≤ k) : rd (mkRat n d) ≤ k := by
 refine Nat.max_le.2 ⟨Nat.le_trans (dd_len_mono ?_) hn, Nat.le_trans (dd_len_mono ?_) hk⟩
 ·rw [mk_num_abs hd]; exact Nat.div_le_self _ _
 ·rw [mk_den hd]; exact Nat.div_le_self _ _
theorem dd_mul (m n : Nat) : (dd (m * n)).length ≤ (dd m).length + (dd n).length := by
 have := dl_mul (m : Int) n
 rw [← Int.natCast_mul] at this
 exact this
theorem rd_add (a b : Rat) : rd (a + b) ≤ rd a + rd b + 1 := by
 rw [← add_mk]
 have h1 := rd_num a; have h2 := rd_den a; have h3 := rd_num b; have h4 := rd_den b
 have h5 := dl_mul a.num b.den
 have h6 := dl_mul b.num a.den
 rw [dl_nat] at h5 h6
 refine rd_mk (Nat.mul_ne_zero a.den_nz b.den_nz) (dl_add (k := rd a + rd b) (by omega) (by omega)) ?_
 have := dd_mul a.den b.den
 omega
theorem rd_mul (a b : Rat) : rd (a * b) ≤ rd a + rd b := by
 rw [← mul_mk]
 have h1 := rd_num a; have h2 := rd_den a; have h3 := rd_num b; have h4 := rd_den b
 have h5 := dl_mul a.num b.num
 have := dd_mul a.den b.den
 exact rd_mk (Nat.mul_ne_zero a.den_nz b.den_nz) (by omega) (by omega)
theorem rd_sub (a b : Rat) : rd (a - b) ≤ rd a + rd b + 1 := by
 rw [Rat.sub_eq_add_neg]
 have := rd_add a (-b)
 rw [rd_neg] at this; exact this
theorem rd_inv (a : Rat) : rd a⁻¹ = rd a := by
 unfold rd
 rw [Rat.num_inv, Rat.den_inv]
 by_cases h : a.num = 0
 ·rw [if_pos h, h, den_zero h]
  simp [dl, dd_one, dd_zero]
 ·rw [if_neg h, Nat.max_comm]
  congr 1
  unfold dl
  rw [Int.natAbs_mul, Int.natAbs_sign_of_ne_zero h, Nat.one_mul]; rfl
theorem rd_div (a b : Rat) : rd (a / b) ≤ rd a + rd b := by
 rw [Rat.div_def]
 have := rd_mul a b⁻¹
 rw [rd_inv] at this; exact this
end Go.Ar

/-
 ARITHMETIC: rational.quick, small, join, Parts, Sign, lowest. Own work.
-/
namespace Go.Proofs
open Go Go.Pi Go.RowKit Go.Ar

theorem gd_mid {a t u : List UInt8} {k : Nat} (h : k < t.length) : (a ++ (t ++ u)).getD (a.length + k) 0 = t.getD k 0 := by
 rw [List.getD_eq_getElem?_getD, List.getD_eq_getElem?_getD, List.getElem?_append_right (by omega), Nat.add_sub_cancel_left, List.getElem?_append_left h]
theorem dva_take {t : List UInt8} {k : Nat} (h : k < t.length) : dva 0 (t.take (k + 1)) = dva 0 (t.take k) * 10 + ((t.getD k 0).toNat - 48) := by
 rw [List.take_succ_eq_append_getElem h, dva_append, dva_cons, dva_nil]
 simp [List.getD_eq_getElem?_getD, List.getElem?_eq_getElem h]
theorem dec_getD {t : List UInt8} (ht : isDec t) {k : Nat} (h : k < t.length) : 48 ≤ (t.getD k 0).toNat ∧ (t.getD k 0).toNat ≤ 57 := by
 rw [List.getD_eq_getElem?_getD, List.getElem?_eq_getElem h]
 exact ht _ (List.getElem_mem h)
theorem dva_take_lt {t : List UInt8} (ht : isDec t) (k : Nat) (h : k ≤ 9) : dva 0 (t.take k) < 1000000000 := by
 have h1 := dva_lt (isDec_take ht k)
 have h2 : (t.take k).length ≤ 9 := by rw [List.length_take]; omega
 exact Nat.lt_of_lt_of_le h1 (Nat.pow_le_pow_right (n := 10) (by decide) h2)
theorem head_minus {s : List UInt8} (h : 0 < s.length) : ((s.getD 0 0).toNat : Int) = 45 ↔ isMinus s := by
 cases s with
 | nil => simp at h
 | cons c s =>
   simp only [List.getD_cons_zero, isMinus, List.head?_cons, Option.some.injEq]
   constructor
   ·intro h1
    have h2 : c.toNat = (45 : UInt8).toNat := by have : (45 : UInt8).toNat = 45 := rfl; omega
    exact UInt8.toNat_inj.1 h2
   ·rintro rfl; rfl

theorem Tryz.rquick (q : Rat) (hq : rd q ≤ 100000) : Con Tryz.prog Tryz.L 57 [.str (rt q)] (if rd q ≤ 9 then .tup [.int .i64 q.num, .int .i64 q.den, .bool true] else .tup [.int .i64 0, .int .i64 0, .bool false]) := by
 obtain ⟨sg, u, hs, hm, hu⟩ : ∃ sg u : List UInt8, rt q = sg ++ (dd q.num.natAbs ++ u) ∧ (q.num < 0 ∧ sg = [45] ∨ 0 ≤ q.num ∧ sg = []) ∧ (q.den = 1 ∧ u = [] ∨ q.den ≠ 1 ∧ u = 47 :: dd q.den) := by
  refine ⟨if q.num < 0 then [45] else [], if q.den = 1 then [] else 47 :: dd q.den, ?_, by split <;> simp_all, by split <;> simp_all⟩
  unfold rt
  rw [tz_nat]
  split <;> split <;> simp
 have hl := rt_len q
 have h9 : rd q ≤ 9 ↔ (dd q.num.natAbs).length ≤ 9 ∧ (dd q.den).length ≤ 9 := Nat.max_le
 have hpos : 0 < (rt q).length := List.length_pos_iff.2 rt_ne
 have hmin : ((rt q).getD 0 0).toNat = (45 : Int) ↔ q.num < 0 := (head_minus hpos).trans ((rt_minus q).trans (sign_num q).1.symm)
 have hlen : (rt q).length = sg.length + (dd q.num.natAbs).length + u.length := by rw [hs, List.length_append, List.length_append]; omega
 have hget : ∀ k, k < (dd q.num.natAbs).length → (rt q).getD (sg.length + k) 0 = (dd q.num.natAbs).getD k 0 := fun k hk => by rw [hs]; exact gd_mid hk
 have hslash : u ≠ [] → (rt q).getD (sg.length + (dd q.num.natAbs).length) 0 = 47 := fun h => by
  rcases hu with ⟨_, rfl⟩ | ⟨_, rfl⟩
  ·exact absurd rfl h
  ·rw [hs, ← List.append_assoc, ← List.length_append, List.getD_eq_getElem?_getD, List.getElem?_append_right (by omega), Nat.sub_self]; rfl
 have hget2 : ∀ k, u = 47 :: dd q.den → k < (dd q.den).length → (rt q).getD (sg.length + (dd q.num.natAbs).length + 1 + k) 0 = (dd q.den).getD k 0 := fun k h hk => by
  rw [hs, h]
  have := gd_mid (a := sg ++ (dd q.num.natAbs ++ [47])) (t := dd q.den) (u := []) hk
  simp only [List.length_append, List.length_singleton, List.append_nil, List.append_assoc, List.singleton_append] at this
  rw [show sg.length + ((dd q.num.natAbs).length + 1) + k = sg.length + (dd q.num.natAbs).length + 1 + k by omega] at this
  exact this
 have hd1 := dd_isDec q.num.natAbs
 have hd2 := dd_isDec q.den
 have hv1 := dd_dva q.num.natAbs
 have hv2 := dd_dva q.den
 have hl1 := dd_len_pos q.num.natAbs
 generalize rt q = s at *
 generalize ht : dd q.num.natAbs = t at *
 generalize htd : dd q.den = td at *
 have hden := q.den_pos
 generalize rd q = rdq at *
 refine rule57 Tryz.hL (by split <;> rfl) rfl rfl ?_
 (simp only [pc57, rs57, oU, oC]; refine ev ?_; try exact ⟨⟩)
 rcases hm with ⟨hneg, hsg⟩ | ⟨hneg, hsg⟩
 ·have hlsg : sg.length = 1 := by rw [hsg]; rfl
  rw [hlsg] at hget hslash hget2 hlen
  refine ⟨fun h => ⟨h, fun h2 => ?_, fun h2 => absurd (hmin.2 hneg) h2⟩, fun h => absurd (by omega) h⟩
  refine loopF_of (fun E => ∃ (k : Nat) (i : Int), i = 1 + k ∧ k ≤ 9 ∧ k ≤ t.length ∧ E = [(0, .str s), (2, .int .i64 (dva 0 (t.take k))), (3, .int .i64 0), (5, .int .i64 i), (6, .bool true), (7, .int .i64 1)])
   (fun E => match lk E 5 with | .int _ i => s.length - i.toNat | _ => 0) ⟨0, 1, rfl, by omega, by omega, rfl⟩ ?_
  rintro _ ⟨k, i, hi, hk9, hkt, rfl⟩
  (refine ev ?_; try exact ⟨⟩)
  have hb := dva_take_lt hd1 k hk9
  rcases Nat.lt_or_ge k t.length with hk | hk
  ·have hg := hget k hk
   have hdg := dec_getD hd1 hk
   have hst := dva_take hk
   rw [show i.toNat = 1 + k by omega, hg]
   generalize t.getD k 0 = c at *
   refine ⟨fun h1 => ⟨by omega, fun h2 => ⟨by omega, fun h3 => ?_, fun h3 => ?_⟩, fun h2 => absurd (show ¬((c.toNat : Int) = 47) by omega) h2⟩, fun h1 => absurd (by omega) h1⟩
   ·rw [if_neg (by omega)]
    simp [resD_two, rvD, lk, D.plain, D.isPure, optAll]
   ·and_intros <;> try omega
    exact ⟨k + 1, i + 1, by omega, by omega, by omega, by rw [hst]; congr 2; omega, rfl⟩
  ·have hkt : k = t.length := by omega
   rw [hkt, List.take_length, hv1] at hb ⊢
   rcases hu with ⟨hden1, hu⟩ | ⟨hden1, hu⟩
   ·rw [hu] at hlen
    simp only [List.length_nil, Nat.add_zero] at hlen
    have htd1 : td.length = 1 := by rw [← htd, hden1, dd_one]; rfl
    refine ⟨fun h1 => absurd h1 (by omega), fun h1 => ⟨by omega, fun _ => ?_, fun h => absurd (by omega) h⟩⟩
    rw [if_pos (by omega)]
    simp [resD_two, rvD, lk, D.plain, D.isPure, optAll, hden1]
    omega
   ·have h47 := hslash (by rw [hu]; simp)
    rw [hu, List.length_cons] at hlen
    rw [show i.toNat = 1 + t.length by omega, h47]
    refine ⟨fun h1 => ⟨by omega, fun h2 => absurd rfl h2, fun _ => ⟨by omega, fun h => absurd h (by omega), fun _ => ⟨by omega, by omega, ?_⟩⟩⟩, fun h1 => absurd (by omega) h1⟩
    refine loopF_of (fun E => ∃ (k : Nat) (j : Int), j = i + 1 + k ∧ k ≤ 9 ∧ k ≤ td.length ∧ E = [(0, .str s), (2, .int .i64 (0 - (q.num.natAbs : Int))), (3, .int .i64 (dva 0 (td.take k))), (5, .int .i64 j), (7, .int .i64 (i + 1))])
     (fun E => match lk E 5 with | .int _ i => s.length - i.toNat | _ => 0) ⟨0, i + 1, by omega, by omega, by omega, rfl⟩ ?_
    rintro _ ⟨k2, j, hj, hk29, hk2t, rfl⟩
    (refine ev ?_; try exact ⟨⟩)
    have hb2 := dva_take_lt hd2 k2 hk29
    rcases Nat.lt_or_ge k2 td.length with hk2 | hk2
    ·have hg := hget2 k2 hu hk2
     have hdg := dec_getD hd2 hk2
     have hst := dva_take hk2
     rw [show j.toNat = 1 + t.length + 1 + k2 by omega, hg]
     generalize td.getD k2 0 = c at *
     refine ⟨fun h1 => ⟨by omega, fun h3 => ?_, fun h3 => ?_⟩, fun h1 => absurd (by omega) h1⟩
     ·rw [if_neg (by omega)]
      simp [resD_two, rvD, lk, D.plain, D.isPure, optAll]
     ·and_intros <;> try omega
      exact ⟨k2 + 1, j + 1, by omega, by omega, by omega, by rw [hst]; congr 2; omega, rfl⟩
    ·have hk2t : k2 = td.length := by omega
     rw [hk2t, List.take_length, hv2] at hb2 ⊢
     refine ⟨fun h1 => absurd h1 (by omega), fun h1 => ?_⟩
     rw [if_pos (by omega)]
     simp [resD_two, rvD, lk, D.plain, D.isPure, optAll]
     omega
 ·have hlsg : sg.length = 0 := by rw [hsg]; rfl
  rw [hlsg] at hget hslash hget2 hlen
  refine ⟨fun h => ⟨h, fun h2 => absurd (hmin.1 h2) (by omega), fun h2 => ?_⟩, fun h => absurd (by omega) h⟩
  refine loopF_of (fun E => ∃ (k : Nat) (i : Int), i = 0 + k ∧ k ≤ 9 ∧ k ≤ t.length ∧ E = [(0, .str s), (2, .int .i64 (dva 0 (t.take k))), (3, .int .i64 0), (5, .int .i64 i), (6, .bool false), (7, .int .i64 0)])
   (fun E => match lk E 5 with | .int _ i => s.length - i.toNat | _ => 0) ⟨0, 0, rfl, by omega, by omega, rfl⟩ ?_
  rintro _ ⟨k, i, hi, hk9, hkt, rfl⟩
  (refine ev ?_; try exact ⟨⟩)
  have hb := dva_take_lt hd1 k hk9
  rcases Nat.lt_or_ge k t.length with hk | hk
  ·have hg := hget k hk
   have hdg := dec_getD hd1 hk
   have hst := dva_take hk
   rw [show i.toNat = 0 + k by omega, hg]
   generalize t.getD k 0 = c at *
   refine ⟨fun h1 => ⟨by omega, fun h2 => ⟨by omega, fun h3 => ?_, fun h3 => ?_⟩, fun h2 => absurd (show ¬((c.toNat : Int) = 47) by omega) h2⟩, fun h1 => absurd (by omega) h1⟩
   ·rw [if_neg (by omega)]
    simp [resD_two, rvD, lk, D.plain, D.isPure, optAll]
   ·and_intros <;> try omega
    exact ⟨k + 1, i + 1, by omega, by omega, by omega, by rw [hst]; congr 2; omega, rfl⟩
  ·have hkt : k = t.length := by omega
   rw [hkt, List.take_length, hv1] at hb ⊢
   rcases hu with ⟨hden1, hu⟩ | ⟨hden1, hu⟩
   ·rw [hu] at hlen
    simp only [List.length_nil, Nat.add_zero] at hlen
    have htd1 : td.length = 1 := by rw [← htd, hden1, dd_one]; rfl
    refine ⟨fun h1 => absurd h1 (by omega), fun h1 => ⟨fun _ => ?_, fun h => absurd (by omega) h⟩⟩
    rw [if_pos (by omega)]
    simp [resD_two, rvD, lk, D.plain, D.isPure, optAll, hden1]
    omega
   ·have h47 := hslash (by rw [hu]; simp)
    rw [hu, List.length_cons] at hlen
    rw [show i.toNat = 0 + t.length by omega, h47]
    refine ⟨fun h1 => ⟨by omega, fun h2 => absurd rfl h2, fun _ => ⟨fun h => absurd h (by omega), fun _ => ⟨by omega, by omega, ?_⟩⟩⟩, fun h1 => absurd (by omega) h1⟩
    refine loopF_of (fun E => ∃ (k : Nat) (j : Int), j = i + 1 + k ∧ k ≤ 9 ∧ k ≤ td.length ∧ E = [(0, .str s), (2, .int .i64 ((q.num.natAbs : Int))), (3, .int .i64 (dva 0 (td.take k))), (5, .int .i64 j), (7, .int .i64 (i + 1))])
     (fun E => match lk E 5 with | .int _ i => s.length - i.toNat | _ => 0) ⟨0, i + 1, by omega, by omega, by omega, rfl⟩ ?_
    rintro _ ⟨k2, j, hj, hk29, hk2t, rfl⟩
    (refine ev ?_; try exact ⟨⟩)
    have hb2 := dva_take_lt hd2 k2 hk29
    rcases Nat.lt_or_ge k2 td.length with hk2 | hk2
    ·have hg := hget2 k2 hu hk2
     have hdg := dec_getD hd2 hk2
     have hst := dva_take hk2
     rw [show j.toNat = 0 + t.length + 1 + k2 by omega, hg]
     generalize td.getD k2 0 = c at *
     refine ⟨fun h1 => ⟨by omega, fun h3 => ?_, fun h3 => ?_⟩, fun h1 => absurd (by omega) h1⟩
     ·rw [if_neg (by omega)]
      simp [resD_two, rvD, lk, D.plain, D.isPure, optAll]
     ·and_intros <;> try omega
      exact ⟨k2 + 1, j + 1, by omega, by omega, by omega, by rw [hst]; congr 2; omega, rfl⟩
    ·have hk2t : k2 = td.length := by omega
     rw [hk2t, List.take_length, hv2] at hb2 ⊢
     refine ⟨fun h1 => absurd h1 (by omega), fun h1 => ?_⟩
     rw [if_pos (by omega)]
     simp [resD_two, rvD, lk, D.plain, D.isPure, optAll]
     omega
end Go.Proofs

/-
 strings.Index of one byte. Own work.
-/
namespace Go.Proofs
open Go Go.Pi Go.RowKit

theorem reps_2 {S : Nat → Nat → Prop} {w : World} {d e : D} {vs : List Value} (h : Reps S w [d, e] vs) : ∃ x y, vs = [x, y] ∧ Rep S w d x ∧ Rep S w e y := by
 obtain ⟨x, vs', rfl, h1, h2⟩ := h.uncons
 obtain ⟨y, rfl, h3⟩ := reps_1 h2
 exact ⟨x, y, rfl, h1, h3⟩

theorem Tryz.c122 (l : List UInt8) (c : UInt8) : Con Tryz.prog Tryz.L 122 [.str l, .int .u8 c.toNat] (.int .i64 (Lib.indexByte l c)) := by
 refine con_val (by kernel_rfl) rfl fun S w vs hL hv => ?_
 obtain ⟨x, y, rfl, h1, h2⟩ := reps_2 hv
 cases h1; cases h2
 refine (Tryz.stringslite_IndexByte ⟨l.toArray⟩ c.toNat w).mono ?_
 rintro e w' ⟨rfl, rfl⟩
 exact ⟨_, rfl, Below.refl _ _, fun _ _ => by simpa using .int _ _⟩

theorem Tryz.c105 (l : List UInt8) (c : UInt8) : Con Tryz.prog Tryz.L 105 [.str l, .str [c]] (.int .i64 (Lib.indexByte l c)) := by
 refine con_val (by kernel_rfl) rfl fun S w vs hL hv => ?_
 obtain ⟨x, y, rfl, h1, h2⟩ := reps_2 hv
 cases h1; cases h2
 refine (Tryz.stringslite_Index_one ⟨l.toArray⟩ c w).mono ?_
 rintro e w' ⟨rfl, rfl⟩
 exact ⟨_, rfl, Below.refl _ _, fun _ _ => by simpa using .int _ _⟩

end Go.Proofs

/-
 ARITHMETIC: strings.Cut at a slash; rational.Parts, Sign, small, join, lowest. Own work.
-/
namespace Go.Proofs
open Go Go.Pi Go.RowKit Go.Ar

theorem idxB_none {l : List UInt8} {c : UInt8} (h : ∀ x ∈ l, x ≠ c) : Lib.indexByte l c = -1 := by
 induction l with
 | nil => rfl
 | cons b l ih =>
   have hb := h b (List.mem_cons_self ..)
   have := ih fun x hx => h x (List.mem_cons_of_mem _ hx)
   simp [Lib.indexByte, hb, this]
theorem idxB_some {a b : List UInt8} {c : UInt8} (h : ∀ x ∈ a, x ≠ c) : Lib.indexByte (a ++ c :: b) c = a.length := by
 induction a with
 | nil => simp [Lib.indexByte]
 | cons x a ih =>
   have hb := h x (List.mem_cons_self ..)
   have := ih fun x hx => h x (List.mem_cons_of_mem _ hx)
   simp only [List.cons_append, Lib.indexByte, this]
   rw [if_neg (by simpa using hb), if_neg (by simp)]
   simp
theorem cut_cases (s : List UInt8) (c : UInt8) : (∀ x ∈ s, x ≠ c) ∨ ∃ a b, s = a ++ c :: b ∧ ∀ x ∈ a, x ≠ c := by
 induction s with
 | nil => exact .inl fun _ h => by cases h
 | cons x s ih =>
   by_cases hx : x = c
   ·subst hx; exact .inr ⟨[], s, rfl, fun _ h => by cases h⟩
   ·rcases ih with h | ⟨a, b, rfl, h⟩
    ·refine .inl fun y hy => ?_
     rcases List.mem_cons.1 hy with rfl | hy
     ·exact hx
     ·exact h y hy
    ·refine .inr ⟨x :: a, b, rfl, fun y hy => ?_⟩
     rcases List.mem_cons.1 hy with rfl | hy
     ·exact hx
     ·exact h y hy
theorem take_mid {a b : List UInt8} {c : UInt8} : (a ++ c :: b).take a.length = a := by simp
theorem drop_mid {a b : List UInt8} {c : UInt8} : (a ++ c :: b).drop (a.length + 1) = b := by
 rw [← List.drop_drop, List.drop_left]; rfl

theorem Tryz.slCutN (s : List UInt8) (h : ∀ x ∈ s, x ≠ 47) : Con Tryz.prog Tryz.L 80 [.str s, .str [47]] (.tup [.str s, .str [], .bool false]) := by
 refine rule80 Tryz.hL rfl rfl rfl ?_
 (simp only [pc80, rs80, oU, oC]; refine ev ?_; try exact ⟨⟩)
 refine callF_of (Tryz.c105 s 47) ?_
 rw [idxB_none h]
 (refine ev ?_; try exact ⟨⟩)
 simp [resD_two, rvD, lk, D.plain, D.isPure, optAll]
theorem Tryz.slCutY (a b : List UInt8) (hl : a.length + b.length ≤ 1000000000) (h : ∀ x ∈ a, x ≠ 47) : Con Tryz.prog Tryz.L 80 [.str (a ++ 47 :: b), .str [47]] (.tup [.str a, .str b, .bool true]) := by
 refine rule80 Tryz.hL rfl rfl rfl ?_
 (simp only [pc80, rs80, oU, oC]; refine ev ?_; try exact ⟨⟩)
 refine callF_of (Tryz.c105 (a ++ 47 :: b) 47) ?_
 rw [idxB_some h]
 have hlen : (a ++ 47 :: b).length = a.length + b.length + 1 := by simp; omega
 have e1 := take_mid (a := a) (b := b) (c := 47)
 have e2 := drop_mid (a := a) (b := b) (c := 47)
 generalize a ++ 47 :: b = s at *
 (refine ev ?_; try exact ⟨⟩)
 refine ⟨fun _ => ?_, fun h => absurd (by omega) h⟩
 rw [show ((a.length : Int) + ((1 : Nat) : Int)).toNat = a.length + 1 by omega, List.take_length, e1, e2]
 and_intros <;> try omega
 simp [resD_two, rvD, lk, D.plain, D.isPure, optAll]
theorem Tryz.cutN (s : List UInt8) (h : ∀ x ∈ s, x ≠ 47) : Con Tryz.prog Tryz.L 53 [.str s, .str [47]] (.tup [.str s, .str [], .bool false]) := by
 refine rule53 Tryz.hL rfl rfl rfl ?_
 (simp only [pc53, rs53, oU, oC]; refine ev ?_; try exact ⟨⟩)
 refine callF_of (Tryz.slCutN s h) ?_
 (refine ev ?_; try exact ⟨⟩)
 simp [resD_two, rvD, lk, D.plain, D.isPure, optAll]
theorem Tryz.cutY (a b : List UInt8) (hl : a.length + b.length ≤ 1000000000) (h : ∀ x ∈ a, x ≠ 47) : Con Tryz.prog Tryz.L 53 [.str (a ++ 47 :: b), .str [47]] (.tup [.str a, .str b, .bool true]) := by
 refine rule53 Tryz.hL rfl rfl rfl ?_
 (simp only [pc53, rs53, oU, oC]; refine ev ?_; try exact ⟨⟩)
 refine callF_of (Tryz.slCutY a b hl h) ?_
 (refine ev ?_; try exact ⟨⟩)
 simp [resD_two, rvD, lk, D.plain, D.isPure, optAll]

theorem Tryz.rparts (q : Rat) (hq : rd q ≤ 100000) : Con Tryz.prog Tryz.L 58 [.str (rt q)] (.tup [.str (tz q.num), .str (tz (q.den : Int))]) := by
 rw [dd_tz]
 have h1 := tz_dl q.num
 have h2 := rd_num q
 have h3 := rd_den q
 refine rule58 Tryz.hL rfl rfl rfl ?_
 (simp only [pc58, rs58, oU, oC]; refine ev ?_; try exact ⟨⟩)
 by_cases h : q.den = 1
 ·refine callF_of (Tryz.cutN (rt q) (rt_noslash.2 h)) ?_
  (refine ev ?_; try exact ⟨⟩)
  rw [rt_int h, h, dd_one]
  simp [resD_two, rvD, lk, D.plain, D.isPure, optAll]
 ·rw [rt_frac h]
  refine callF_of (Tryz.cutY (tz q.num) (dd q.den) (by omega) tz_noslash) ?_
  (refine ev ?_; try exact ⟨⟩)
  simp [resD_two, rvD, lk, D.plain, D.isPure, optAll]

theorem sgn_cases (q : Rat) : (q < 0 ∧ q.num < 0 ∧ q.num.sign = -1) ∨ (q = 0 ∧ q.num = 0 ∧ q.num.sign = 0) ∨ (0 < q ∧ 0 < q.num ∧ q.num.sign = 1) := by
 obtain ⟨h1, h2, h3⟩ := sign_num q
 rcases Int.lt_trichotomy q.num 0 with h | h | h
 ·exact .inl ⟨h1.1 h, h, Int.sign_eq_neg_one_of_neg h⟩
 ·exact .inr (.inl ⟨h2.1 h, h, by rw [h]; rfl⟩)
 ·exact .inr (.inr ⟨h3.1 h, h, Int.sign_eq_one_of_pos h⟩)

theorem Tryz.rsign (q : Rat) (hq : rd q ≤ 100000) : Con Tryz.prog Tryz.L 23 [.str (rt q)] (.int .i64 q.num.sign) := by
 refine rule23 Tryz.hL rfl rfl rfl ?_
 (simp only [pc23, rs23, oU, oC]; refine ev ?_; try exact ⟨⟩)
 have hpos : 0 < (rt q).length := List.length_pos_iff.2 rt_ne
 have hmin : ((rt q).getD 0 0).toNat = (45 : Int) ↔ q.num < 0 := (head_minus hpos).trans ((rt_minus q).trans (sign_num q).1.symm)
 have hz : rt q = [48] ↔ q.num = 0 := rt_zero.trans (sign_num q).2.1.symm
 rw [hmin, hz]
 rcases sgn_cases q with ⟨_, h, e⟩ | ⟨_, h, e⟩ | ⟨_, h, e⟩
 all_goals
  rw [e]
  refine ⟨fun h1 => ?_, fun h1 => ⟨fun h2 => ⟨by omega, fun h3 => ?_, fun h3 => ?_⟩, fun h2 => absurd (by omega) h2⟩⟩ <;> first | rfl | (exfalso; omega)

theorem tmod_lt {u v : Int} (h : v ≠ 0) : (u.tmod v).natAbs < v.natAbs := by
 rw [Int.natAbs_tmod]; exact Nat.mod_lt _ (by omega)
theorem gcd_tmod (u v : Int) : Nat.gcd v.natAbs (u.tmod v).natAbs = Nat.gcd u.natAbs v.natAbs := by rw [Int.natAbs_tmod, gcd_next]
theorem gcd_tdiv (n : Int) (d : Nat) : n.tdiv (Nat.gcd n.natAbs d : Nat) = n / ((Nat.gcd n.natAbs d : Nat) : Int) :=
 Int.tdiv_eq_ediv_of_dvd (Int.ofNat_dvd_left.2 (Nat.gcd_dvd_left _ _))
theorem natAbs_div_le (n : Int) (g : Nat) (h : (g : Int) ∣ n) : (n / (g : Int)).natAbs ≤ n.natAbs := by
 rw [Int.natAbs_ediv_of_dvd h]; exact Nat.div_le_self _ _
theorem rt_mk {n : Int} {d : Nat} (hd : d ≠ 0) : rt (mkRat n d) = if d / Nat.gcd n.natAbs d = 1 then tz (n / ((Nat.gcd n.natAbs d : Nat) : Int)) else tz (n / ((Nat.gcd n.natAbs d : Nat) : Int)) ++ 47 :: dd (d / Nat.gcd n.natAbs d) := by
 unfold rt; rw [mk_num hd, mk_den hd]
theorem tz_i64_len {z : Int} (h : inR .i64 z) : (tz z).length ≤ 20 := by
 rw [inR_i64] at h
 have h1 := tz_len z
 have h2 : (dd z.natAbs).length ≤ 19 := dd_len_le (by decide) (Nat.lt_of_le_of_lt (show z.natAbs ≤ 9223372036854775808 by omega) (by decide))
 split at h1 <;> omega

theorem Tryz.small' (n : Int) (d : Nat) (hd : 0 < d) (hn : n.natAbs < 4000000000000000000) (hd2 : d < 4000000000000000000) : Con Tryz.prog Tryz.L 67 [.int .i64 n, .int .i64 d] (.str (rt (mkRat n d))) := by
 refine rule67 Tryz.hL rfl rfl rfl ?_
 (simp only [pc67, rs67, oU, oC]; refine ev ?_; try exact ⟨⟩)
 refine loopF_of (fun E => ∃ u v : Int, u.natAbs < 4000000000000000000 ∧ v.natAbs < 4000000000000000000 ∧ Nat.gcd u.natAbs v.natAbs = Nat.gcd n.natAbs d ∧
   E = [(0, .int .i64 n), (1, .int .i64 d), (5, .int .i64 u), (6, .int .i64 v)])
  (fun E => match lk E 6 with | .int _ v => v.natAbs | _ => 0) ⟨n, d, hn, hd2, rfl, rfl⟩ ?_
 rintro _ ⟨u, v, hu, hv, hg, rfl⟩
 (refine ev ?_; try exact ⟨⟩)
 refine ⟨fun h5 => ?_, fun h5 => ?_⟩
 ·have h7 := tmod_lt (u := u) h5
  exact ⟨h5, ⟨v, u.tmod v, hv, by omega, by rw [gcd_tmod]; exact hg, rfl, rfl⟩, by omega⟩
 ·have h5 : v = 0 := Decidable.of_not_not h5
  subst h5
  rw [show Nat.gcd u.natAbs (0 : Int).natAbs = u.natAbs from Nat.gcd_zero_right _] at hg
  have hg0 : 0 < Nat.gcd n.natAbs d := Nat.gcd_pos_of_pos_right _ hd
  have hgd : Nat.gcd n.natAbs d ∣ d := Nat.gcd_dvd_right _ _
  have e1 := gcd_tdiv n d
  have b1 := natAbs_div_le n (Nat.gcd n.natAbs d) (Int.ofNat_dvd_left.2 (Nat.gcd_dvd_left _ _))
  have e2 : (d : Int).tdiv (Nat.gcd n.natAbs d : Nat) = ((d / Nat.gcd n.natAbs d : Nat) : Int) := by
   rw [Int.tdiv_eq_ediv_of_nonneg (by omega)]; rfl
  have b2 : d / Nat.gcd n.natAbs d ≤ d := Nat.div_le_self _ _
  rw [rt_mk (by omega)]
  generalize Nat.gcd n.natAbs d = g at *
  generalize hy : d / g = y at *
  have fin : ∀ x : Int, x = g → (x ≠ 0 ∧ inR .i64 (n.tdiv x) ∧ x ≠ 0 ∧ inR .i64 ((d : Int).tdiv x)) ∧ n.tdiv x = n / (g : Int) ∧ (d : Int).tdiv x = (y : Int) := by
   rintro x rfl
   rw [e1, e2, inR_i64, inR_i64]
   and_intros <;> try omega
   all_goals first | rfl | omega
  have ci1 := Tryz.c62 (n / (g : Int)) (by rw [inR_i64]; omega)
  have ci2 := Tryz.c62 (y : Int) (by rw [inR_i64]; omega)
  have l1 := tz_i64_len (z := n / (g : Int)) (by rw [inR_i64]; omega)
  have l2 := tz_i64_len (z := (y : Int)) (by rw [inR_i64]; omega)
  refine ⟨fun h6 => ⟨by omega, ?_⟩, fun h6 => ?_⟩
  all_goals
   obtain ⟨⟨f1, f2, f3, f4⟩, f5, f6⟩ := fin _ (by first | (show 0 - u = (g : Int); omega) | (show u = (g : Int); omega))
   rw [inR_i64] at f2 f4
   rw [f5, f6]
   refine ⟨f1, by omega, f3, by omega, fun h7 => ?_, fun h7 => ?_⟩
   ·rw [if_pos (by omega)]
    refine callF_of ci1 ?_
    (refine ev ?_; try exact ⟨⟩)
   ·rw [if_neg (by omega)]
    refine callF_of ci1 ?_
    (refine ev ?_; try exact ⟨⟩)
    refine ⟨by (have := l1; simp only [tz] at this; omega), ?_⟩
    refine callF_of ci2 ?_
    (refine ev ?_; try exact ⟨⟩)
    refine ⟨by (have := l1; have := l2; simp only [tz, List.length_append, List.length_singleton] at *; omega), ?_⟩
    rw [List.append_assoc, List.singleton_append, ← dd_tz]

theorem Tryz.rjoin (a b : List UInt8) (ha : a.length ≤ 1000000) (hb : b.length ≤ 1000000) : Con Tryz.prog Tryz.L 65 [.str a, .str b] (.str (if b = [49] then a else a ++ 47 :: b)) := by
 refine rule65 Tryz.hL rfl rfl rfl ?_
 (simp only [pc65, rs65, oU, oC]; refine ev ?_; try exact ⟨⟩)
 refine ⟨fun h => by rw [if_pos h], fun h => ?_⟩
 rw [if_neg h]
 refine ⟨by omega, by simp; omega, ?_⟩
 rw [List.append_assoc]; rfl
theorem Tryz.rjoinq (q : Rat) (hq : rd q ≤ 100000) : Con Tryz.prog Tryz.L 65 [.str (tz q.num), .str (dd q.den)] (.str (rt q)) := by
 have h1 := tz_dl q.num
 have h2 := rd_num q
 have h3 := rd_den q
 have := Tryz.rjoin (tz q.num) (dd q.den) (by omega) (by omega)
 have e : dd q.den = [49] ↔ q.den = 1 := ⟨fun h => dd_inj (h.trans dd_one.symm), fun h => by rw [h, dd_one]⟩
 unfold rt
 by_cases h : q.den = 1
 ·rw [if_pos (e.2 h)] at this; rw [if_pos h]; exact this
 ·rw [if_neg (fun h2 => h (e.1 h2))] at this; rw [if_neg h]; exact this

theorem Tryz.rlowest' (n : Int) (d : Nat) (hd : d ≠ 0) (hn : dl n ≤ 20000) (hd2 : (dd d).length ≤ 20000) : Con Tryz.prog Tryz.L 61 [.str (tz n), .str (tz d)] (.str (rt (mkRat n d))) := by
 have hdd : dl (d : Int) ≤ 20000 := hd2
 have td := tz_dl (d : Int)
 refine rule61 Tryz.hL rfl rfl rfl ?_
 (simp only [pc61, rs61, oU, oC]; refine ev ?_; try exact ⟨⟩)
 refine callF_of (Tryz.sign d (by omega)) ?_
 (refine ev ?_; try exact ⟨⟩)
 rw [Int.sign_eq_one_of_pos (show (0 : Int) < d by omega)]
 refine ⟨fun h => absurd h (by omega), fun _ => ?_⟩
 refine callF_of (Tryz.gcd n d (by omega) (by omega)) ?_
 (refine ev ?_; try exact ⟨⟩)
 rw [Int.natAbs_natCast, tz_one]
 have hg0 : 0 < Nat.gcd n.natAbs d := Nat.gcd_pos_of_pos_right _ (by omega)
 have hgl : dl ((Nat.gcd n.natAbs d : Nat) : Int) ≤ 20000 := Nat.le_trans (dd_len_mono (Nat.le_of_dvd (by omega) (Nat.gcd_dvd_right _ _))) hd2
 have hj := Tryz.rjoinq (mkRat n d) (Nat.le_trans (rd_mk hd hn hd2) (by decide))
 rw [mk_num hd, mk_den hd] at hj
 have m1 := Tryz.divMod n (Nat.gcd n.natAbs d : Nat) (by omega) (by omega) (by omega)
 have m2 := Tryz.divMod (d : Int) (Nat.gcd n.natAbs d : Nat) (by omega) (by omega) (by omega)
 rw [show (d : Int) / ((Nat.gcd n.natAbs d : Nat) : Int) = ((d / Nat.gcd n.natAbs d : Nat) : Int) from rfl, dd_tz] at m2
 refine ⟨fun h => ?_, fun h => ?_⟩
 ·refine callF_of m1 ?_
  (refine ev ?_; try exact ⟨⟩)
  refine callF_of m2 ?_
  (refine ev ?_; try exact ⟨⟩)
  refine callF_of hj ?_
  (refine ev ?_; try exact ⟨⟩)
 ·have h : ((Nat.gcd n.natAbs d : Nat) : Int) = 1 := Decidable.of_not_not h
  have h1 : Nat.gcd n.natAbs d = 1 := by omega
  rw [h1, Nat.div_one, show ((1 : Nat) : Int) = 1 from rfl, Int.ediv_one] at hj
  rw [dd_tz]
  refine callF_of hj ?_
  (refine ev ?_; try exact ⟨⟩)
end Go.Proofs

/-
 ARITHMETIC: rational.Compare, Add. Own work.
-/
namespace Go.Proofs
open Go Go.Pi Go.RowKit Go.Ar

theorem q9 {q : Rat} (h : rd q ≤ 9) : q.num.natAbs < 1000000000 ∧ (q.den : Int).natAbs < 1000000000 := by
 obtain ⟨h1, h2⟩ := Nat.max_le.1 h
 exact ⟨Nat.lt_of_lt_of_le (dd_lt q.num.natAbs) (Nat.pow_le_pow_right (n := 10) (by decide) (show (dd q.num.natAbs).length ≤ 9 from h1)),
  Nat.lt_of_lt_of_le (dd_lt q.den) (Nat.pow_le_pow_right (n := 10) (by decide) h2)⟩
def cmpQ (a b : Rat) : Int := if a < b then -1 else if b < a then 1 else 0
theorem cmpQ_cross (a b : Rat) : cmpQ a b = cmpZ (a.num * b.den) (b.num * a.den) := by
 unfold cmpQ cmpZ
 simp only [lt_cross]
theorem cmpQ_self (a : Rat) : cmpQ a a = 0 := by unfold cmpQ; rw [if_neg Rat.lt_irrefl, if_neg Rat.lt_irrefl]
theorem cmpZ_lt {x y : Int} (h : x < y) : cmpZ x y = -1 := if_pos h
theorem cmpZ_gt {x y : Int} (h : y < x) : cmpZ x y = 1 := by unfold cmpZ; rw [if_neg (by omega), if_pos h]
theorem cmpZ_eq {x y : Int} (h : x = y) : cmpZ x y = 0 := by unfold cmpZ; rw [if_neg (by omega), if_neg (by omega)]

theorem Tryz.rcompare (a b : Rat) (ha : rd a ≤ 5000) (hb : rd b ≤ 5000) : Con Tryz.prog Tryz.L 34 [.str (rt a), .str (rt b)] (.int .i64 (cmpQ a b)) := by
 refine rule34 Tryz.hL rfl rfl rfl ?_
 (simp only [pc34, rs34, oU, oC]; refine ev ?_; try exact ⟨⟩)
 refine ⟨fun h => by rw [rt_inj h, cmpQ_self], fun _ => ?_⟩
 have pa := Tryz.rparts a (by omega)
 have pb := Tryz.rparts b (by omega)
 have a1 := rd_num a; have a2 : dl (a.den : Int) ≤ rd a := rd_den a
 have b1 := rd_num b; have b2 : dl (b.den : Int) ≤ rd b := rd_den b
 have d1 := dl_mul a.num b.den
 have d2 := dl_mul b.num a.den
 have m1 := Tryz.mul a.num b.den (by omega) (by omega)
 have m2 := Tryz.mul b.num a.den (by omega) (by omega)
 have cc := Tryz.compare (a.num * b.den) (b.num * a.den) (by omega) (by omega)
 rw [cmpQ_cross]
 refine callF_of (Tryz.rquick a (by omega)) ?_
 split
 rename_i h1
 (refine ev ?_; try exact ⟨⟩)
 refine callF_of (Tryz.rquick b (by omega)) ?_
 split
 ·rename_i h2
  have s1 := mul_small (q9 h1).1 (q9 h2).2
  have s2 := mul_small (q9 h2).1 (q9 h1).2
  (refine ev ?_; try exact ⟨⟩)
  generalize a.num * (b.den : Int) = x at *
  generalize b.num * (a.den : Int) = y at *
  refine ⟨by omega, by omega, fun h3 => by rw [cmpZ_lt h3], fun h3 => ⟨fun h4 => by rw [cmpZ_gt h4], fun h4 => by rw [cmpZ_eq (by omega)]⟩⟩
 all_goals
  (refine ev ?_; try exact ⟨⟩)
  refine callF_of pa ?_
  (refine ev ?_; try exact ⟨⟩)
  refine callF_of pb ?_
  (refine ev ?_; try exact ⟨⟩)
  refine callF_of m1 ?_
  (refine ev ?_; try exact ⟨⟩)
  refine callF_of m2 ?_
  (refine ev ?_; try exact ⟨⟩)
  refine callF_of cc ?_
  (refine ev ?_; try exact ⟨⟩)

theorem Tryz.radd (a b : Rat) (ha : rd a ≤ 5000) (hb : rd b ≤ 5000) : Con Tryz.prog Tryz.L 43 [.str (rt a), .str (rt b)] (.str (rt (a + b))) := by
 refine rule43 Tryz.hL rfl rfl rfl ?_
 (simp only [pc43, rs43, oU, oC]; refine ev ?_; try exact ⟨⟩)
 rw [rt_zero, rt_zero]
 refine ⟨fun h => by rw [h, Rat.zero_add], fun _ => ⟨fun h => by rw [h, Rat.add_zero], fun _ => ?_⟩⟩
 have pa := Tryz.rparts a (by omega)
 have pb := Tryz.rparts b (by omega)
 have a1 := rd_num a; have a2 : dl (a.den : Int) ≤ rd a := rd_den a
 have b1 := rd_num b; have b2 : dl (b.den : Int) ≤ rd b := rd_den b
 have d1 := dl_mul a.num b.den
 have d2 := dl_mul b.num a.den
 have d3 := dl_mul a.den b.den
 have d4 := dl_add (k := rd a + rd b) (x := a.num * b.den) (y := b.num * a.den) (by omega) (by omega)
 have m1 := Tryz.mul a.num b.den (by omega) (by omega)
 have m2 := Tryz.mul b.num a.den (by omega) (by omega)
 have m3 := Tryz.mul a.den b.den (by omega) (by omega)
 have ad := Tryz.add (a.num * b.den) (b.num * a.den) (by omega) (by omega)
 have hne : a.den * b.den ≠ 0 := Nat.mul_ne_zero a.den_nz b.den_nz
 have lw := Tryz.rlowest' (a.num * b.den + b.num * a.den) (a.den * b.den) hne (by omega) (by rw [← dl_nat, Int.natCast_mul]; omega)
 rw [add_mk] at lw
 rw [← Int.natCast_mul] at m3
 refine callF_of (Tryz.rquick a (by omega)) ?_
 split
 rename_i h1
 (refine ev ?_; try exact ⟨⟩)
 refine callF_of (Tryz.rquick b (by omega)) ?_
 split
 ·rename_i h2
  have s1 := mul_small (q9 h1).1 (q9 h2).2
  have s2 := mul_small (q9 h2).1 (q9 h1).2
  have s3 := mul_small (q9 h1).2 (q9 h2).2
  have sm := Tryz.small' (a.num * b.den + b.num * a.den) (a.den * b.den) (by omega) (by omega) (by rw [← Int.natCast_mul] at s3; omega)
  rw [add_mk] at sm
  rw [← Int.natCast_mul] at s3
  (refine ev ?_; try exact ⟨⟩)
  rw [← Int.natCast_mul]
  generalize a.num * (b.den : Int) = x at *
  generalize b.num * (a.den : Int) = y at *
  generalize a.den * b.den = z at *
  refine ⟨by omega, by omega, by omega, by omega, ?_⟩
  refine callF_of sm ?_
  (refine ev ?_; try exact ⟨⟩)
 all_goals
  (refine ev ?_; try exact ⟨⟩)
  refine callF_of pa ?_
  (refine ev ?_; try exact ⟨⟩)
  refine callF_of pb ?_
  (refine ev ?_; try exact ⟨⟩)
  refine callF_of m1 ?_
  (refine ev ?_; try exact ⟨⟩)
  refine callF_of m2 ?_
  (refine ev ?_; try exact ⟨⟩)
  refine callF_of ad ?_
  (refine ev ?_; try exact ⟨⟩)
  refine callF_of m3 ?_
  (refine ev ?_; try exact ⟨⟩)
  refine callF_of lw ?_
  (refine ev ?_; try exact ⟨⟩)
end Go.Proofs

/-
 ARITHMETIC: integer.Check, rational.Check. Own work.
-/
namespace Go.Proofs
open Go Go.Pi Go.RowKit Go.Ar

/-- the text of an integer -/
def canon (s : List UInt8) : Prop := isDec (unDash s) ∧ unDash s ≠ [] ∧ ((unDash s).head? = some 48 → (unDash s).length = 1 ∧ ¬isMinus s)
theorem minus_cons {s : List UInt8} (h : isMinus s) : s = 45 :: s.drop 1 := by
 cases s with
 | nil => simp [isMinus] at h
 | cons c s => simp only [isMinus, List.head?_cons, Option.some.injEq] at h; rw [h]; rfl
theorem canon_iff (s : List UInt8) : canon s ↔ ∃ z : Int, s = tz z := by
 constructor
 ·rintro ⟨h1, h2, h3⟩
  have hc := dd_canon _ (unDash s) rfl h1 h2 (fun r hr => by
   have := (h3 (by rw [hr]; rfl)).1
   rw [hr] at this
   exact List.eq_nil_of_length_eq_zero (by simpa using this))
  by_cases hm : isMinus s
  ·have hn : 0 < dva 0 (unDash s) := by
    rcases Nat.eq_zero_or_pos (dva 0 (unDash s)) with h0 | h0
    ·rw [h0, dd_zero] at hc
     exact absurd hm (h3 (by rw [← hc]; rfl)).2
    ·exact h0
   refine ⟨-(dva 0 (unDash s) : Int), ?_⟩
   rw [tz_nat, if_pos (by omega), Int.natAbs_neg, Int.natAbs_natCast, hc]
   conv => lhs; rw [minus_cons hm]
   rw [unDash_minus hm]
  ·refine ⟨(dva 0 (unDash s) : Int), ?_⟩
   rw [dd_tz, hc, unDash_plain hm]
 ·rintro ⟨z, rfl⟩
  refine ⟨by rw [unDash_tz]; exact dd_isDec _, by rw [unDash_tz]; exact dd_ne _, fun h => ?_⟩
  rw [unDash_tz] at h ⊢
  have e : ∃ r, dd z.natAbs = 48 :: r := by
   cases hq : dd z.natAbs with
   | nil => exact absurd hq (dd_ne _)
   | cons c r => rw [hq] at h; simp only [List.head?_cons, Option.some.injEq] at h; rw [h]; exact ⟨r, rfl⟩
  obtain ⟨r, hr⟩ := e
  obtain ⟨h1, h2⟩ := dd_head hr
  subst h1
  exact ⟨by rw [hr]; rfl, fun h3 => by have := (tz_minus z).1 h3; omega⟩
/-- a right integer -/
def okZ (s : List UInt8) : Prop := ∃ z : Int, s = tz z ∧ dl z ≤ 200
theorem okZ_iff (s : List UInt8) : okZ s ↔ canon s ∧ (unDash s).length ≤ 200 := by
 rw [canon_iff]
 constructor
 ·rintro ⟨z, rfl, h⟩; exact ⟨⟨z, rfl⟩, by rw [unDash_tz]; exact h⟩
 ·rintro ⟨⟨z, rfl⟩, h⟩; rw [unDash_tz] at h; exact ⟨z, rfl, h⟩
/-- a right number -/
def okR (s : List UInt8) : Prop := ∃ q : Rat, s = rt q ∧ rd q ≤ 200
/-- the error of a check -/
noncomputable def chk (p : Prop) : Int := @ite Int p (Classical.propDecidable p) 0 2
theorem chk_t {p : Prop} (h : p) : chk p = 0 := @if_pos p (Classical.propDecidable p) h _ _ _
theorem chk_f {p : Prop} (h : ¬p) : chk p = 2 := @if_neg p (Classical.propDecidable p) h _ _ _
theorem chk_0 {p : Prop} : chk p = 0 ↔ p := ⟨fun h => Classical.byContradiction fun h2 => (by rw [chk_f h2] at h; cases h), chk_t⟩
theorem getD_head {t : List UInt8} (h : t ≠ []) (c : UInt8) : ((t.getD 0 0).toNat : Int) = c.toNat ↔ t.head? = some c := by
 cases t with
 | nil => exact absurd rfl h
 | cons x t =>
   simp only [List.getD_cons_zero, List.head?_cons, Option.some.injEq]
   exact ⟨fun h1 => UInt8.toNat_inj.1 (by omega), fun h1 => by rw [h1]⟩
theorem isDec_take_iff {t : List UInt8} : isDec t ↔ ∀ k, k < t.length → 48 ≤ (t.getD k 0).toNat ∧ (t.getD k 0).toNat ≤ 57 := by
 constructor
 ·intro h k hk; exact dec_getD h hk
 ·intro h c hc
  obtain ⟨k, hk, rfl⟩ := List.mem_iff_getElem.1 hc
  have := h k hk
  rw [List.getD_eq_getElem?_getD, List.getElem?_eq_getElem hk] at this
  exact this

theorem Tryz.icheck (s : List UInt8) (hs : s.length ≤ 1000000) : Con Tryz.prog Tryz.L 54 [.str s] (.int .i64 (chk (okZ s))) := by
 refine rule54 Tryz.hL rfl rfl rfl ?_
 (simp only [pc54, rs54, oU, oC]; refine ev ?_; try exact ⟨⟩)
 refine callF_of (Tryz.sCutDash s (by omega)) ?_
 rw [show okZ s = (canon s ∧ (unDash s).length ≤ 200) from propext (okZ_iff s)]
 have hlen : (unDash s).length ≤ s.length := by unfold unDash; split <;> simp
 unfold canon
 have g48 := fun h => getD_head (t := unDash s) h 48
 have hdec := isDec_take_iff (t := unDash s)
 generalize unDash s = t at *
 (refine ev ?_; try exact ⟨⟩)
 have e48 : (((48 : UInt8).toNat : Nat) : Int) = 48 := rfl
 rw [e48] at g48
 have loop : ∀ (X : Prop), (isDec t → X) → (¬isDec t → X) → X := fun X h1 h2 => Classical.byCases h1 h2
 refine ⟨fun h1 => ⟨fun h2 => ⟨by (have := List.length_pos_iff.2 h1; omega), fun h3 => ⟨fun h4 => ⟨fun h5 => ?_, fun h5 => ?_⟩, fun h4 => ?_⟩, fun h3 => ?_⟩, fun h2 => ?_⟩, fun h1 => ?_⟩
 ·rw [chk_f (fun h => (h.1.2.2 ((g48 h1).1 h3)).2 h5)]
 rotate_left
 ·rw [chk_f (fun h => by have := (h.1.2.2 ((g48 h1).1 h3)).1; omega)]
 rotate_left
 ·rw [chk_f (fun h => absurd h.2 (by omega))]
 ·rw [chk_f (fun h => h.1.2.1 h1)]
 all_goals
  refine loopF_of (fun E => ∃ k : Nat, k ≤ t.length ∧ (∀ j, j < k → 48 ≤ (t.getD j 0).toNat ∧ (t.getD j 0).toNat ≤ 57) ∧ E = [(3, .str t), (32, .int .i64 t.length), (33, .int .i64 k)])
   (fun E => match lk E 33 with | .int _ i => t.length - i.toNat | _ => 0) ⟨0, by omega, fun j hj => absurd hj (by omega), rfl⟩ ?_
  rintro _ ⟨k, hk, hall, rfl⟩
  (refine ev ?_; try exact ⟨⟩)
  refine ⟨fun h6 => ⟨by omega, fun h7 => ⟨by omega, fun h8 => ?_, fun h8 => ⟨by omega, ⟨k + 1, by omega, fun j hj => ?_, rfl⟩, by omega⟩⟩, fun h7 => ?_⟩, fun h6 => ?_⟩
  ·rw [chk_f (fun h => by have := hdec.1 h.1.1 k (by omega); omega)]
  ·rcases Nat.lt_or_ge j k with h | h
   ·exact hall j h
   ·obtain rfl : j = k := by omega
    exact ⟨by omega, by omega⟩
  ·rw [chk_f (fun h => by have := hdec.1 h.1.1 k (by omega); omega)]
  ·have hp := List.length_pos_iff.2 h1
   rw [chk_t ⟨⟨hdec.2 (fun j hj => hall j (by omega)), h1, fun h => by first | exact ⟨by omega, h5⟩ | exact absurd ((g48 h1).2 h) h3⟩, by omega⟩]
theorem okR_int {s : List UInt8} (h : ∀ x ∈ s, x ≠ 47) : okR s ↔ okZ s := by
 constructor
 ·rintro ⟨q, rfl, hq⟩
  have hd := rt_noslash.1 h
  exact ⟨q.num, rt_int hd, Nat.le_trans (rd_num q) hq⟩
 ·rintro ⟨z, rfl, hz⟩
  exact ⟨(z : Rat), (rt_z z).symm, by rw [rd_z]; exact hz⟩
theorem okR_frac {a b : List UInt8} (h : ∀ x ∈ a, x ≠ 47) : okR (a ++ 47 :: b) ↔ ∃ (n : Int) (d : Nat), a = tz n ∧ b = dd d ∧ dl n ≤ 200 ∧ (dd d).length ≤ 200 ∧ 1 < d ∧ Nat.gcd n.natAbs d = 1 := by
 constructor
 ·rintro ⟨q, hs, hq⟩
  have hd : q.den ≠ 1 := fun hd => by
   have := rt_noslash.2 hd 47 (by rw [← hs]; simp)
   exact this rfl
  rw [rt_frac hd] at hs
  obtain ⟨h1, h2⟩ := split_inj h tz_noslash hs
  exact ⟨q.num, q.den, h1, h2, Nat.le_trans (rd_num q) hq, Nat.le_trans (rd_den q) hq, by have := q.den_pos; omega, q.reduced⟩
 ·rintro ⟨n, d, rfl, rfl, h1, h2, h3, h4⟩
  obtain ⟨e1, e2⟩ := mk_cop (n := n) (d := d) (by omega) h4
  refine ⟨mkRat n d, ?_, ?_⟩
  ·rw [rt_frac (by rw [e2]; omega), e1, e2]
  ·unfold rd; rw [e1, e2]; exact Nat.max_le.2 ⟨h1, h2⟩

theorem dl_one : dl 1 = 1 := by unfold dl; rw [show (1 : Int).natAbs = 1 from rfl, dd_one]; rfl
theorem Tryz.rcheck (s : List UInt8) (hs : s.length ≤ 1000000) : Con Tryz.prog Tryz.L 30 [.str s] (.int .i64 (chk (okR s))) := by
 refine rule30 Tryz.hL rfl rfl rfl ?_
 (simp only [pc30, rs30, oU, oC]; refine ev ?_; try exact ⟨⟩)
 rcases cut_cases s 47 with h | ⟨a, b, rfl, h⟩
 ·rw [show okR s = okZ s from propext (okR_int h)]
  refine callF_of (Tryz.cutN s h) ?_
  (refine ev ?_; try exact ⟨⟩)
  refine callF_of (Tryz.icheck s hs) ?_
  (refine ev ?_; try exact ⟨⟩)
  rw [chk_0]
  exact ⟨fun h2 => by rw [chk_f h2], fun h2 => by rw [chk_t (Classical.not_not.1 h2)]⟩
 ·have hl : a.length + b.length ≤ 1000000 := by rw [List.length_append, List.length_cons] at hs; omega
  refine callF_of (Tryz.cutY a b (by omega) h) ?_
  (refine ev ?_; try exact ⟨⟩)
  refine callF_of (Tryz.icheck a (by omega)) ?_
  (refine ev ?_; try exact ⟨⟩)
  rw [chk_0, show okR (a ++ 47 :: b) = _ from propext (okR_frac h)]
  refine ⟨fun h2 => by rw [chk_f (fun ⟨n, d, e1, _, e3, _⟩ => h2 ⟨n, e1, e3⟩)], fun h2 => ?_⟩
  obtain ⟨n, rfl, hn⟩ := Classical.not_not.1 h2
  refine callF_of (Tryz.icheck b (by omega)) ?_
  (refine ev ?_; try exact ⟨⟩)
  rw [chk_0]
  refine ⟨fun h3 => ?_, fun h3 => by rw [chk_f (fun ⟨n, d, _, e2, _, e4, _⟩ => h3 ⟨d, by rw [e2, dd_tz], e4⟩)]⟩
  obtain ⟨y, rfl, hy⟩ := Classical.not_not.1 h3
  have hcm := Tryz.compare y 1 (by omega) (by rw [dl_one]; decide)
  rw [(tz_one).2 rfl] at hcm
  refine callF_of hcm ?_
  (refine ev ?_; try exact ⟨⟩)
  rw [tz_zero]
  have hcz : cmpZ y 1 ≤ 0 ↔ y ≤ 1 := by unfold cmpZ; split <;> (try split) <;> omega
  rw [hcz]
  have key : (∃ (n' : Int) (d : Nat), tz n = tz n' ∧ tz y = dd d ∧ dl n' ≤ 200 ∧ (dd d).length ≤ 200 ∧ 1 < d ∧ Nat.gcd n'.natAbs d = 1) ↔ 1 < y ∧ Nat.gcd n.natAbs y.natAbs = 1 := by
   constructor
   ·rintro ⟨n', d, e1, e2, e3, e4, e5, e6⟩
    have e7 : y = d := tz_inj (by rw [e2, dd_tz])
    rw [tz_inj e1, e7]; exact ⟨by omega, e6⟩
   ·rintro ⟨e1, e2⟩
    refine ⟨n, y.natAbs, rfl, ?_, hn, hy, by omega, e2⟩
    rw [← dd_tz]; congr 1; omega
  rw [show (∃ (n' : Int) (d : Nat), tz n = tz n' ∧ tz y = dd d ∧ dl n' ≤ 200 ∧ (dd d).length ≤ 200 ∧ 1 < d ∧ Nat.gcd n'.natAbs d = 1) = _ from propext key]
  refine ⟨fun h4 => ⟨fun h5 => ?_, fun h5 => ?_⟩, fun h4 => by rw [chk_f (fun h => by omega)]⟩
  ·refine callF_of (Tryz.gcd n y (by omega) (by omega)) ?_
   (refine ev ?_; try exact ⟨⟩)
   rw [tz_one]
   refine ⟨fun h6 => ?_, fun h6 => ?_⟩
   ·rw [chk_f (fun h => by omega)]
   ·rw [chk_t ⟨by omega, by omega⟩]
  ·rw [chk_f (fun h => by rw [h5] at h; have := h.2; rw [show (0 : Int).natAbs = 0 from rfl, Nat.gcd_zero_left] at this; omega)]
theorem okR_rt (q : Rat) : okR (rt q) ↔ rd q ≤ 200 := ⟨fun ⟨p, h1, h2⟩ => by rw [rt_inj h1]; exact h2, fun h => ⟨q, rfl, h⟩⟩
theorem Tryz.rcheckQ (q : Rat) (hq : rd q ≤ 200) : Con Tryz.prog Tryz.L 30 [.str (rt q)] (.int .i64 0) := by
 have h := Tryz.rcheck (rt q) (by have := rt_len q; omega)
 rw [chk_t ((okR_rt q).2 hq)] at h; exact h
end Go.Proofs

/-
 ARITHMETIC: rational.Mul, Neg, Sub, Abs, Div, Of, Whole, Middle. Own work.
-/
namespace Go.Proofs
open Go Go.Pi Go.RowKit Go.Ar

theorem Tryz.rmul (a b : Rat) (ha : rd a ≤ 5000) (hb : rd b ≤ 5000) : Con Tryz.prog Tryz.L 44 [.str (rt a), .str (rt b)] (.str (rt (a * b))) := by
 refine rule44 Tryz.hL rfl rfl rfl ?_
 (simp only [pc44, rs44, oU, oC]; refine ev ?_; try exact ⟨⟩)
 simp only [rt_zero, rt_one]
 refine ⟨fun h => ⟨fun _ => by rw [h, Rat.zero_mul, zero_txt], fun k => absurd h k⟩, fun _ => ⟨fun h => by rw [h, Rat.mul_zero, zero_txt], fun _ => ⟨fun h => by rw [h, Rat.one_mul], fun _ => ⟨fun h => by rw [h, Rat.mul_one], fun _ => ?_⟩⟩⟩⟩
 have pa := Tryz.rparts a (by omega)
 have pb := Tryz.rparts b (by omega)
 have a1 := rd_num a; have a2 : dl (a.den : Int) ≤ rd a := rd_den a
 have b1 := rd_num b; have b2 : dl (b.den : Int) ≤ rd b := rd_den b
 have d1 := dl_mul a.num b.num
 have d3 := dl_mul a.den b.den
 have m1 := Tryz.mul a.num b.num (by omega) (by omega)
 have m3 := Tryz.mul a.den b.den (by omega) (by omega)
 have hne : a.den * b.den ≠ 0 := Nat.mul_ne_zero a.den_nz b.den_nz
 have lw := Tryz.rlowest' (a.num * b.num) (a.den * b.den) hne (by omega) (by rw [← dl_nat, Int.natCast_mul]; omega)
 rw [mul_mk] at lw
 rw [← Int.natCast_mul] at m3
 refine callF_of (Tryz.rquick a (by omega)) ?_
 split
 rename_i h1
 (refine ev ?_; try exact ⟨⟩)
 refine callF_of (Tryz.rquick b (by omega)) ?_
 split
 ·rename_i h2
  have s1 := mul_small (q9 h1).1 (q9 h2).1
  have s3 := mul_small (q9 h1).2 (q9 h2).2
  have sm := Tryz.small' (a.num * b.num) (a.den * b.den) (by omega) (by omega) (by rw [← Int.natCast_mul] at s3; omega)
  rw [mul_mk] at sm
  rw [← Int.natCast_mul] at s3
  (refine ev ?_; try exact ⟨⟩)
  rw [← Int.natCast_mul]
  generalize a.num * b.num = x at *
  generalize a.den * b.den = z at *
  refine ⟨by omega, by omega, ?_⟩
  refine callF_of sm ?_
  (refine ev ?_; try exact ⟨⟩)
 all_goals
  (refine ev ?_; try exact ⟨⟩)
  refine callF_of pa ?_
  (refine ev ?_; try exact ⟨⟩)
  refine callF_of pb ?_
  (refine ev ?_; try exact ⟨⟩)
  refine callF_of m1 ?_
  (refine ev ?_; try exact ⟨⟩)
  refine callF_of m3 ?_
  (refine ev ?_; try exact ⟨⟩)
  refine callF_of lw ?_
  (refine ev ?_; try exact ⟨⟩)

theorem rt_pos_len (a : Rat) : 0 < (rt a).length := List.length_pos_iff.2 rt_ne
theorem rt_head (a : Rat) : (((rt a).getD 0 0).toNat : Int) = 45 ↔ a < 0 := (head_minus (rt_pos_len a)).trans (rt_minus a)
theorem Tryz.rneg (a : Rat) (ha : rd a ≤ 20000) : Con Tryz.prog Tryz.L 66 [.str (rt a)] (.str (rt (-a))) := by
 have hl := rt_len a
 have hp := rt_pos_len a
 refine rule66 Tryz.hL rfl rfl rfl ?_
 (simp only [pc66, rs66, oU, oC]; refine ev ?_; try exact ⟨⟩)
 rw [rt_zero, rt_head]
 refine ⟨fun h => by rw [h, Rat.neg_zero], fun h => ⟨by omega, fun h2 => ?_, fun h2 => ?_⟩⟩
 ·rw [rt_neg_neg h2, List.take_length]
  and_intros <;> try omega
  rfl
 ·have h3 : 0 < a := by
   rcases sgn_cases a with ⟨h4, _⟩ | ⟨h4, _⟩ | ⟨h4, _⟩
   ·exact absurd h4 h2
   ·exact absurd h4 h
   ·exact h4
  rw [rt_neg_pos h3]
  exact ⟨by omega, rfl⟩
theorem Tryz.rsub (a b : Rat) (ha : rd a ≤ 5000) (hb : rd b ≤ 5000) : Con Tryz.prog Tryz.L 42 [.str (rt a), .str (rt b)] (.str (rt (a - b))) := by
 refine rule42 Tryz.hL rfl rfl rfl ?_
 (simp only [pc42, rs42, oU, oC]; refine ev ?_; try exact ⟨⟩)
 refine callF_of (Tryz.rneg b (by omega)) ?_
 (refine ev ?_; try exact ⟨⟩)
 refine callF_of (Tryz.radd a (-b) ha (by rw [rd_neg]; exact hb)) ?_
 (refine ev ?_; try exact ⟨⟩)
 rw [Rat.sub_eq_add_neg]
def absQ (a : Rat) : Rat := if a < 0 then -a else a
theorem rd_abs (a : Rat) : rd (absQ a) = rd a := by unfold absQ; split <;> simp [rd_neg]
theorem Tryz.rabs (a : Rat) (ha : rd a ≤ 20000) : Con Tryz.prog Tryz.L 32 [.str (rt a)] (.str (rt (absQ a))) := by
 have hl := rt_len a
 have hp := rt_pos_len a
 refine rule32 Tryz.hL rfl rfl rfl ?_
 (simp only [pc32, rs32, oU, oC]; refine ev ?_; try exact ⟨⟩)
 rw [rt_head]
 unfold absQ
 refine ⟨by omega, fun h2 => ?_, fun h2 => ?_⟩
 ·rw [if_pos h2, rt_neg_neg h2, List.take_length]
  and_intros <;> try omega
  rfl
 ·rw [if_neg h2]
theorem dl_i64 {z : Int} (h : inR .i64 z) : dl z ≤ 19 := by
 rw [inR_i64] at h
 exact dd_len_le (by decide) (Nat.lt_of_le_of_lt (show z.natAbs ≤ 9223372036854775808 by omega) (by decide))
theorem Tryz.rnew (n : Int) (d : Nat) (hd : 0 < d) (h1 : dl n ≤ 20000) (h2 : dl (d : Int) ≤ 20000) : Con Tryz.prog Tryz.L 38 [.str (tz n), .str (tz d)] (.tup [.str (rt (mkRat n d)), .int .i64 0]) := by
 have t2 := tz_dl (d : Int)
 refine rule38 Tryz.hL rfl rfl rfl ?_
 (simp only [pc38, rs38, oU, oC]; refine ev ?_; try exact ⟨⟩)
 refine callF_of (Tryz.sign d (by omega)) ?_
 (refine ev ?_; try exact ⟨⟩)
 rw [Int.sign_eq_one_of_pos (show (0 : Int) < d by omega)]
 refine ⟨fun h => absurd h (by decide), fun _ => ?_⟩
 refine callF_of (Tryz.rlowest' n d (by omega) (by omega) (by have : dl (d : Int) = (dd d).length := rfl; omega)) ?_
 (refine ev ?_; try exact ⟨⟩)
 simp [resD_two, rvD, lk, D.plain, D.isPure, optAll]
theorem Tryz.rof (n : Int) (d : Nat) (hd : 0 < d) (h : inR .i64 n) (h2 : inR .i64 (d : Int)) : Con Tryz.prog Tryz.L 14 [.int .i64 n, .int .i64 d] (.tup [.str (rt (mkRat n d)), .int .i64 0]) := by
 have l1 := dl_i64 h
 have l2 := dl_i64 h2
 have t2 := tz_dl (d : Int)
 have hnew := Tryz.rnew n d hd (by omega) (by omega)
 refine rule14 Tryz.hL rfl rfl rfl ?_
 (simp only [pc14, rs14, oU, oC]; refine ev ?_; try exact ⟨⟩)
 refine callF_of (Tryz.of n h) ?_
 (refine ev ?_; try exact ⟨⟩)
 refine callF_of (Tryz.of d h2) ?_
 (refine ev ?_; try exact ⟨⟩)
 refine callF_of hnew ?_
 (refine ev ?_; try exact ⟨⟩)
 simp [resD_two, rvD, lk, D.plain, D.isPure, optAll]
theorem Tryz.rdiv (a b : Rat) (ha : rd a ≤ 5000) (hb : rd b ≤ 5000) (h0 : b ≠ 0) : Con Tryz.prog Tryz.L 41 [.str (rt a), .str (rt b)] (.tup [.str (rt (a / b)), .int .i64 0]) := by
 have b1 := rd_num b; have b2 : dl (b.den : Int) ≤ rd b := rd_den b
 have t1 := tz_dl b.num
 have t2 := tz_dl (b.den : Int)
 have hi := rd_inv b
 have hp := rt_pos_len b
 have hm := Tryz.rmul a b⁻¹ ha (by omega)
 have hj := Tryz.rjoinq b⁻¹ (by omega)
 rw [Rat.num_inv, Rat.den_inv] at hj
 rw [← Rat.div_def] at hm
 refine rule41 Tryz.hL rfl rfl rfl ?_
 (simp only [pc41, rs41, oU, oC]; refine ev ?_; try exact ⟨⟩)
 rw [rt_zero]
 refine ⟨fun h => absurd h h0, fun _ => ?_⟩
 refine callF_of (Tryz.rparts b (by omega)) ?_
 (refine ev ?_; try exact ⟨⟩)
 rw [rt_head]
 refine ⟨by omega, fun h => ?_, fun h => ?_⟩
 ·have hn := (sign_num b).1.2 h
  rw [if_neg (by omega), Int.sign_eq_neg_one_of_neg hn, Int.neg_one_mul, ← dd_tz, show ((b.num.natAbs : Nat) : Int) = -b.num by omega] at hj
  refine callF_of (Tryz.neg b.num (by omega)) ?_
  (refine ev ?_; try exact ⟨⟩)
  refine callF_of (Tryz.neg b.den (by omega)) ?_
  (refine ev ?_; try exact ⟨⟩)
  refine callF_of hj ?_
  (refine ev ?_; try exact ⟨⟩)
  refine callF_of hm ?_
  (refine ev ?_; try exact ⟨⟩)
  simp [resD_two, rvD, lk, D.plain, D.isPure, optAll]
 ·have hn : 0 < b.num := by
   rcases sgn_cases b with ⟨h4, _⟩ | ⟨h4, _⟩ | ⟨_, h4, _⟩
   ·exact absurd h4 h
   ·exact absurd h4 h0
   ·exact h4
  rw [if_neg (by omega), Int.sign_eq_one_of_pos hn, Int.one_mul, ← dd_tz, show ((b.num.natAbs : Nat) : Int) = b.num by omega] at hj
  refine callF_of hj ?_
  (refine ev ?_; try exact ⟨⟩)
  refine callF_of hm ?_
  (refine ev ?_; try exact ⟨⟩)
  simp [resD_two, rvD, lk, D.plain, D.isPure, optAll]
end Go.Proofs

/-
 POLYLINE: area, turn, compare, within, on; the law's. Own work.
-/
namespace Go.Proofs
open Go Go.Pi Go.RowKit Go.Ar Go.Ge

/-- a point as data -/
def ptD (p : Pt) : D := .agg [.str (rt p.1), .str (rt p.2)]
/-- small enough -/
def Sz (k : Nat) (p : Pt) : Prop := rd p.1 ≤ k ∧ rd p.2 ≤ k
theorem rd_ar {a b c : Pt} (ha : Sz 300 a) (hb : Sz 300 b) (hc : Sz 300 c) : rd (ar a b c) ≤ 2500 := by
 unfold ar
 obtain ⟨a1, a2⟩ := ha
 obtain ⟨b1, b2⟩ := hb
 obtain ⟨c1, c2⟩ := hc
 have s1 := rd_sub b.1 a.1
 have s2 := rd_sub c.2 a.2
 have s3 := rd_sub b.2 a.2
 have s4 := rd_sub c.1 a.1
 have m1 := rd_mul (b.1 - a.1) (c.2 - a.2)
 have m2 := rd_mul (b.2 - a.2) (c.1 - a.1)
 have := rd_sub ((b.1 - a.1) * (c.2 - a.2)) ((b.2 - a.2) * (c.1 - a.1))
 omega
theorem Tryz.parea (a b c : Pt) (ha : Sz 300 a) (hb : Sz 300 b) (hc : Sz 300 c) : Con Tryz.prog Tryz.L 33 [ptD a, ptD b, ptD c] (.str (rt (ar a b c))) := by
 have hr : ∀ {x y z : Pt}, Sz 300 x → Sz 300 y → True := fun _ _ => trivial
 obtain ⟨a1, a2⟩ := ha
 obtain ⟨b1, b2⟩ := hb
 obtain ⟨c1, c2⟩ := hc
 have s1 := rd_sub b.1 a.1
 have s2 := rd_sub c.2 a.2
 have s3 := rd_sub b.2 a.2
 have s4 := rd_sub c.1 a.1
 have m1 := rd_mul (b.1 - a.1) (c.2 - a.2)
 have m2 := rd_mul (b.2 - a.2) (c.1 - a.1)
 refine rule33 Tryz.hL rfl rfl rfl ?_
 simp only [ptD, pc33, rs33, oU, oC, evX, evY, evZ, forall_const, implies_true, initE, stepF, D.clean, mvF, moF, tkF, shF, ariF, ciF, catF, scF, ebF, eqF, eqOk, eqPr, enF, notF, ngF, cvF, csF, csbF, lenF, lenSF, ixF, iaF, PX.slot, iaAF, faF, ldF, D.mem, stF, bxF, mkSF, boundF, fldF, ixAF, mmF2, D.plain, D.isPure, optAll, D.dull, callVF, splice, D.cells, D.one, sets, resT, D.flat, D.flat0, D.simple, Nat.reduceBNe, Nat.reduceLT, reduceIte, Nat.reduceEqDiff, Nat.reduceAdd, Nat.reduceMul, Nat.reduceSub, Nat.reduceLeDiff, Int.reduceToNat, Int.reduceLT, Int.reduceLE, Int.reduceEq, Int.reduceNeg, Int.reduceSub, Int.reduceAdd, Int.reduceMul, stG_own]
 refine callF_of (Tryz.rsub b.1 a.1 (by omega) (by omega)) ?_
 (refine ev ?_; try exact ⟨⟩)
 refine callF_of (Tryz.rsub c.2 a.2 (by omega) (by omega)) ?_
 (refine ev ?_; try exact ⟨⟩)
 refine callF_of (Tryz.rmul (b.1 - a.1) (c.2 - a.2) (by omega) (by omega)) ?_
 (refine ev ?_; try exact ⟨⟩)
 refine callF_of (Tryz.rsub b.2 a.2 (by omega) (by omega)) ?_
 (refine ev ?_; try exact ⟨⟩)
 refine callF_of (Tryz.rsub c.1 a.1 (by omega) (by omega)) ?_
 (refine ev ?_; try exact ⟨⟩)
 refine callF_of (Tryz.rmul (b.2 - a.2) (c.1 - a.1) (by omega) (by omega)) ?_
 (refine ev ?_; try exact ⟨⟩)
 refine callF_of (Tryz.rsub ((b.1 - a.1) * (c.2 - a.2)) ((b.2 - a.2) * (c.1 - a.1)) (by omega) (by omega)) ?_
 (refine ev ?_; try exact ⟨⟩)
 rfl
theorem Tryz.larea (a b c : Pt) (ha : Sz 300 a) (hb : Sz 300 b) (hc : Sz 300 c) : Con Tryz.prog Tryz.L 24 [ptD a, ptD b, ptD c] (.str (rt (ar a b c))) := by
 obtain ⟨a1, a2⟩ := ha
 obtain ⟨b1, b2⟩ := hb
 obtain ⟨c1, c2⟩ := hc
 have s1 := rd_sub b.1 a.1
 have s2 := rd_sub c.2 a.2
 have s3 := rd_sub b.2 a.2
 have s4 := rd_sub c.1 a.1
 have m1 := rd_mul (b.1 - a.1) (c.2 - a.2)
 have m2 := rd_mul (b.2 - a.2) (c.1 - a.1)
 refine rule24 Tryz.hL rfl rfl rfl ?_
 simp only [ptD, pc24, rs24, oU, oC, evX, evY, evZ, forall_const, implies_true, initE, stepF, D.clean, mvF, moF, tkF, shF, ariF, ciF, catF, scF, ebF, eqF, eqOk, eqPr, enF, notF, ngF, cvF, csF, csbF, lenF, lenSF, ixF, iaF, PX.slot, iaAF, faF, ldF, D.mem, stF, bxF, mkSF, boundF, fldF, ixAF, mmF2, D.plain, D.isPure, optAll, D.dull, callVF, splice, D.cells, D.one, sets, resT, D.flat, D.flat0, D.simple, Nat.reduceBNe, Nat.reduceLT, reduceIte, Nat.reduceEqDiff, Nat.reduceAdd, Nat.reduceMul, Nat.reduceSub, Nat.reduceLeDiff, Int.reduceToNat, Int.reduceLT, Int.reduceLE, Int.reduceEq, Int.reduceNeg, Int.reduceSub, Int.reduceAdd, Int.reduceMul, stG_own]
 refine callF_of (Tryz.rsub b.1 a.1 (by omega) (by omega)) ?_
 (refine ev ?_; try exact ⟨⟩)
 refine callF_of (Tryz.rsub c.2 a.2 (by omega) (by omega)) ?_
 (refine ev ?_; try exact ⟨⟩)
 refine callF_of (Tryz.rmul (b.1 - a.1) (c.2 - a.2) (by omega) (by omega)) ?_
 (refine ev ?_; try exact ⟨⟩)
 refine callF_of (Tryz.rsub b.2 a.2 (by omega) (by omega)) ?_
 (refine ev ?_; try exact ⟨⟩)
 refine callF_of (Tryz.rsub c.1 a.1 (by omega) (by omega)) ?_
 (refine ev ?_; try exact ⟨⟩)
 refine callF_of (Tryz.rmul (b.2 - a.2) (c.1 - a.1) (by omega) (by omega)) ?_
 (refine ev ?_; try exact ⟨⟩)
 refine callF_of (Tryz.rsub ((b.1 - a.1) * (c.2 - a.2)) ((b.2 - a.2) * (c.1 - a.1)) (by omega) (by omega)) ?_
 (refine ev ?_; try exact ⟨⟩)
 rfl
/-- the sign of the area -/
def trn (a b c : Pt) : Int := (ar a b c).num.sign
theorem Tryz.pturn (a b c : Pt) (ha : Sz 300 a) (hb : Sz 300 b) (hc : Sz 300 c) : Con Tryz.prog Tryz.L 48 [ptD a, ptD b, ptD c] (.int .i64 (trn a b c)) := by
 have hr := rd_ar ha hb hc
 have h0 := Tryz.parea a b c ha hb hc
 refine rule48 Tryz.hL rfl rfl rfl ?_
 simp only [ptD, pc48, rs48, oU, oC, evX, evY, evZ, forall_const, implies_true, initE, stepF, D.clean, mvF, moF, tkF, shF, ariF, ciF, catF, scF, ebF, eqF, eqOk, eqPr, enF, notF, ngF, cvF, csF, csbF, lenF, lenSF, ixF, iaF, PX.slot, iaAF, faF, ldF, D.mem, stF, bxF, mkSF, boundF, fldF, ixAF, mmF2, D.plain, D.isPure, optAll, D.dull, callVF, splice, D.cells, D.one, sets, resT, D.flat, D.flat0, D.simple, Nat.reduceBNe, Nat.reduceLT, reduceIte, Nat.reduceEqDiff, Nat.reduceAdd, Nat.reduceMul, Nat.reduceSub, Nat.reduceLeDiff, Int.reduceToNat, Int.reduceLT, Int.reduceLE, Int.reduceEq, Int.reduceNeg, Int.reduceSub, Int.reduceAdd, Int.reduceMul, stG_own]
 refine callF_of h0 ?_
 (refine ev ?_; try exact ⟨⟩)
 refine callF_of (Tryz.rsign _ (by omega)) ?_
 (refine ev ?_; try exact ⟨⟩)
 rfl
/-- the order of points, as a number -/
def cmpP (a b : Pt) : Int := if cmpQ a.1 b.1 = 0 then cmpQ a.2 b.2 else cmpQ a.1 b.1
theorem cmpQ_pm (a b : Rat) : (cmpQ a b = 0 ↔ a = b) ∧ (cmpQ a b < 0 ↔ a < b) ∧ (0 < cmpQ a b ↔ b < a) := by
 unfold cmpQ
 split
 ·exact ⟨⟨fun h => absurd h (by decide), fun h => by grind⟩, ⟨fun _ => by assumption, fun _ => by decide⟩, ⟨fun h => absurd h (by decide), fun h => by grind⟩⟩
 ·split
  ·exact ⟨⟨fun h => absurd h (by decide), fun h => by grind⟩, ⟨fun h => absurd h (by decide), fun h => by grind⟩, ⟨fun _ => by assumption, fun _ => by decide⟩⟩
  ·exact ⟨⟨fun _ => by grind, fun _ => rfl⟩, ⟨fun h => absurd h (by decide), fun h => by grind⟩, ⟨fun h => absurd h (by decide), fun h => by grind⟩⟩
theorem cmpP_le (a b : Pt) : cmpP a b ≤ 0 ↔ le a b := by
 have h1 := cmpQ_pm a.1 b.1
 have h2 := cmpQ_pm a.2 b.2
 unfold cmpP le
 split
 ·rename_i h
  have := h1.1.1 h
  constructor
  ·intro k; exact .inr ⟨this, Rat.not_lt.1 fun h' => by have := h2.2.2.2 h'; omega⟩
  ·rintro (k | ⟨_, k⟩)
   ·grind
   ·exact Int.not_lt.1 fun h' => by have := h2.2.2.1 h'; grind
 ·rename_i h
  constructor
  ·intro k; exact .inl (h1.2.1.1 (by omega))
  ·rintro (k | ⟨k, _⟩)
   ·have := h1.2.1.2 k; omega
   ·exact absurd (h1.1.2 k) h
theorem cmpP_zero (a b : Pt) : cmpP a b = 0 ↔ a = b := by
 have h1 := cmpQ_pm a.1 b.1
 have h2 := cmpQ_pm a.2 b.2
 unfold cmpP
 split
 ·rename_i h
  rw [h2.1]
  exact ⟨fun k => Prod.ext (h1.1.1 h) k, fun k => by rw [k]⟩
 ·rename_i h
  exact ⟨fun k => absurd k h, fun k => absurd (h1.1.2 (by rw [k])) h⟩
theorem cmpP_gt (a b : Pt) : 0 < cmpP a b ↔ ¬le a b := by rw [← cmpP_le]; omega
theorem cmpP_lt (a b : Pt) : cmpP a b < 0 ↔ le a b ∧ a ≠ b := by
 have h1 := cmpP_le a b
 have h2 := cmpP_zero a b
 rw [← h1, Ne, ← h2]; omega
theorem Tryz.pcompare (a b : Pt) (ha : Sz 300 a) (hb : Sz 300 b) : Con Tryz.prog Tryz.L 20 [ptD a, ptD b] (.int .i64 (cmpP a b)) := by
 obtain ⟨a1, a2⟩ := ha
 obtain ⟨b1, b2⟩ := hb
 refine rule20 Tryz.hL rfl rfl rfl ?_
 simp only [ptD, pc20, rs20, oU, oC, evX, evY, evZ, forall_const, implies_true, initE, stepF, D.clean, mvF, moF, tkF, shF, ariF, ciF, catF, scF, ebF, eqF, eqOk, eqPr, enF, notF, ngF, cvF, csF, csbF, lenF, lenSF, ixF, iaF, PX.slot, iaAF, faF, ldF, D.mem, stF, bxF, mkSF, boundF, fldF, ixAF, mmF2, D.plain, D.isPure, optAll, D.dull, callVF, splice, D.cells, D.one, sets, resT, D.flat, D.flat0, D.simple, Nat.reduceBNe, Nat.reduceLT, reduceIte, Nat.reduceEqDiff, Nat.reduceAdd, Nat.reduceMul, Nat.reduceSub, Nat.reduceLeDiff, Int.reduceToNat, Int.reduceLT, Int.reduceLE, Int.reduceEq, Int.reduceNeg, Int.reduceSub, Int.reduceAdd, Int.reduceMul, stG_own]
 refine callF_of (Tryz.rcompare a.1 b.1 (by omega) (by omega)) ?_
 (refine ev ?_; try exact ⟨⟩)
 refine ⟨fun h => ?_, fun h => ?_⟩
 ·unfold cmpP; rw [if_neg h]
 ·refine callF_of (Tryz.rcompare a.2 b.2 (by omega) (by omega)) ?_
  (refine ev ?_; try exact ⟨⟩)
  unfold cmpP; rw [if_pos (Classical.not_not.1 h)]
theorem Tryz.lcompare (a b : Pt) (ha : Sz 300 a) (hb : Sz 300 b) : Con Tryz.prog Tryz.L 22 [ptD a, ptD b] (.int .i64 (cmpP a b)) := by
 obtain ⟨a1, a2⟩ := ha
 obtain ⟨b1, b2⟩ := hb
 refine rule22 Tryz.hL rfl rfl rfl ?_
 simp only [ptD, pc22, rs22, oU, oC, evX, evY, evZ, forall_const, implies_true, initE, stepF, D.clean, mvF, moF, tkF, shF, ariF, ciF, catF, scF, ebF, eqF, eqOk, eqPr, enF, notF, ngF, cvF, csF, csbF, lenF, lenSF, ixF, iaF, PX.slot, iaAF, faF, ldF, D.mem, stF, bxF, mkSF, boundF, fldF, ixAF, mmF2, D.plain, D.isPure, optAll, D.dull, callVF, splice, D.cells, D.one, sets, resT, D.flat, D.flat0, D.simple, Nat.reduceBNe, Nat.reduceLT, reduceIte, Nat.reduceEqDiff, Nat.reduceAdd, Nat.reduceMul, Nat.reduceSub, Nat.reduceLeDiff, Int.reduceToNat, Int.reduceLT, Int.reduceLE, Int.reduceEq, Int.reduceNeg, Int.reduceSub, Int.reduceAdd, Int.reduceMul, stG_own]
 refine callF_of (Tryz.rcompare a.1 b.1 (by omega) (by omega)) ?_
 (refine ev ?_; try exact ⟨⟩)
 refine ⟨fun h => ?_, fun h => ?_⟩
 ·unfold cmpP; rw [if_neg h]
 ·refine callF_of (Tryz.rcompare a.2 b.2 (by omega) (by omega)) ?_
  (refine ev ?_; try exact ⟨⟩)
  unfold cmpP; rw [if_pos (Classical.not_not.1 h)]
end Go.Proofs

/-
 POLYLINE: lists of points as data. Own work.
-/
namespace Go.Proofs
open Go Go.Pi Go.RowKit Go.Ar Go.Ge

def pD (p : Pt) : List D := [.str (rt p.1), .str (rt p.2)]
abbrev pts (l : List Pt) : List D := rows pD l
theorem pD_len (x : Pt) : (pD x).length = 2 := rfl
abbrev chn (l : List Pt) : D := .sl l.length (pts l)
theorem pts_len (l : List Pt) : (pts l).length = l.length * 2 := rows_length pD_len l
theorem ldC_pts {l : List Pt} {k t : Nat} {N : EP} {E : Env} : ldC true 2 (List.take 2 (List.drop (k * 2) (pts l))) t N E = (∃ x, l[k]? = some x ∧ N (st1 E t (.agg (pD x)))) := by
 unfold ldC
 cases h : l[k]? with
 | none =>
   have hk : l.length ≤ k := by simpa using h
   have e : List.take 2 (List.drop (k * 2) (pts l)) = [] := by rw [List.drop_eq_nil_of_le (by rw [rows_length pD_len]; omega)]; rfl
   rw [e]; simp [ofCells]
 | some x =>
   obtain ⟨r, e⟩ := rows_at pD_len h
   have e2 : List.take 2 (List.drop (k * 2) (pts l)) = pD x := by rw [e]; rfl
   rw [e2]
   simp [ofCells, pD]
theorem pts_snoc (l : List Pt) (x : Pt) : pts (l ++ [x]) = pts l ++ pD x := rows_snoc
theorem eq_pt (p q : Pt) : eqPr [2, 2] (pD p) (pD q) ↔ p = q := by
 constructor
 ·intro h
  simp [eqPr, pD] at h
  exact Prod.ext (rt_inj h.1) (rt_inj h.2)
 ·rintro rfl; simp [eqPr, pD]
theorem eqOk_pt (p q : Pt) : eqOk [2, 2] (pD p) (pD q) := by simp [eqOk, pD]
end Go.Proofs
